/-
  The slimmed code of the functions, printed by program, and that it is what is computed from the program.
-/
import Derived.Test.YtibjdfajafilhaaLRow
import Derived.Test.YtibjdfajafilhaaProg
import Derived.KernelRfl
namespace Go.Lite
open Go Go.Proofs
set_option maxRecDepth 100000
-- thunk/thunklaw2.DatumText
def c3_l0 : SCode :=
  (SCode.seq (SCode.seq (SCode.ops [SOper.mk (some 15) none (SOp.p (POp.move (SX.tmp 6))), SOper.mk (some 16) none (SOp.p (POp.move (SX.tmp 5))), SOper.mk (some 17) none (SOp.p (POp.lenS (SX.tmp 16))), SOper.mk (some 18) none (SOp.p (POp.bin BinOp.lss EqT.none (SX.tmp 15) (SX.tmp 17)))])
  (SCode.cond (SX.tmp 18)
  SCode.skip
  (SCode.exit 0)))
  (SCode.seq (SCode.block 1 (SCode.seq (SCode.seq (SCode.ops [SOper.mk (some 21) none (SOp.p (POp.move (SX.tmp 6))), SOper.mk (some 22) none (SOp.p (POp.bin BinOp.gtr EqT.none (SX.tmp 21) (SX.lit (AV.int IntKind.i64 0))))])
  (SCode.cond (SX.tmp 22)
  (SCode.ops [SOper.mk (some 23) none (SOp.p (POp.move (SX.tmp 3))), SOper.mk (some 24) none (SOp.p (POp.bin BinOp.add EqT.none (SX.tmp 23) (SX.lit (AV.str [32])))), SOper.mk (some 3) none (SOp.p (POp.move (SX.tmp 24)))])
  SCode.skip))
  (SCode.draw [SOper.mk (some 25) none (SOp.p (POp.move (SX.tmp 3))), SOper.mk (some 26) none (SOp.p (POp.move (SX.tmp 5))), SOper.mk (some 27) none (SOp.p (POp.move (SX.tmp 6))), SOper.mk (some 28) none (SOp.p (POp.iaddr 5 (SX.tmp 26) (SX.tmp 27))), SOper.mk (some 29) none (SOp.p (POp.loadn 5 (SX.tmp 28))), SOper.mk (some 32) none (SOp.p (POp.move (SX.tmp 4))), SOper.mk (some 33) none (SOp.p (POp.move (SX.tmp 5))), SOper.mk (some 34) none (SOp.p (POp.move (SX.tmp 6))), SOper.mk (some 35) none (SOp.p (POp.iaddr 5 (SX.tmp 33) (SX.tmp 34))), SOper.mk (some 36) none (SOp.p (POp.loadn 5 (SX.tmp 35)))] [(SOper.mk (some 30) none (SOp.call (SX.lit (AV.func 14 [])) [SX.tmp 29]), [SOper.mk (some 36) none (SOp.p (POp.loadn 5 (SX.tmp 35)))], [SOper.mk (some 31) none (SOp.p (POp.bin BinOp.add EqT.none (SX.tmp 25) (SX.tmp 30)))]), (SOper.mk (some 37) none (SOp.call (SX.lit (AV.func 15 [])) [SX.tmp 36]), [], [SOper.mk (some 38) none (SOp.p (POp.bin BinOp.add EqT.none (SX.tmp 32) (SX.tmp 37))), SOper.mk (some 3) none (SOp.p (POp.move (SX.tmp 31))), SOper.mk (some 4) none (SOp.p (POp.move (SX.tmp 38)))])])))
  (SCode.ops [SOper.mk (some 19) none (SOp.p (POp.move (SX.tmp 6))), SOper.mk (some 20) none (SOp.p (POp.bin BinOp.add EqT.none (SX.tmp 19) (SX.lit (AV.int IntKind.i64 1)))), SOper.mk (some 6) none (SOp.p (POp.move (SX.tmp 20)))])))
def c3 : SFunc := ⟨52, (SCode.seq (SCode.ops [SOper.mk (some 2) none (SOp.p (POp.move (SX.lit (AV.bool false))))])
  (SCode.seq (SCode.seq (SCode.ops [SOper.mk (some 8) none (SOp.call (SX.lit (AV.func 11 [])) []), SOper.mk (some 9) none (SOp.p (POp.not (SX.tmp 8)))])
  (SCode.cond (SX.tmp 9)
  (SCode.seq (SCode.ops [SOper.mk (some 2) none (SOp.p (POp.move (SX.lit (AV.bool false))))])
  SCode.ret)
  SCode.skip))
  (SCode.seq (SCode.seq (SCode.ops [SOper.mk (some 10) none (SOp.p (POp.move (SX.tmp 0))), SOper.mk (some 11) none (SOp.call (SX.lit (AV.func 12 [])) [SX.tmp 10]), SOper.mk (some 12) none (SOp.p (POp.not (SX.tmp 11)))])
  (SCode.cond (SX.tmp 12)
  (SCode.seq (SCode.ops [SOper.mk (some 2) none (SOp.p (POp.move (SX.lit (AV.bool true))))])
  SCode.ret)
  SCode.skip))
  (SCode.seq (SCode.ops [SOper.mk (some 3) none (SOp.p (POp.move (SX.lit (AV.str [40])))), SOper.mk (some 4) none (SOp.p (POp.move (SX.lit (AV.int IntKind.i64 1))))])
  (SCode.seq (SCode.ops [SOper.mk (some 13) none (SOp.p (POp.move (SX.tmp 0))), SOper.mk (some 14) none (SOp.call (SX.lit (AV.func 13 [])) [SX.tmp 13]), SOper.mk (some 5) none (SOp.p (POp.move (SX.tmp 14)))])
  (SCode.seq (SCode.seq (SCode.ops [SOper.mk (some 6) none (SOp.p (POp.move (SX.lit (AV.int IntKind.i64 0))))])
  (SCode.block 0 (SCode.loop c3_l0)))
  (SCode.seq (SCode.ops [SOper.mk (some 39) none (SOp.p (POp.move (SX.tmp 5))), SOper.mk (some 40) none (SOp.p (POp.build [AV.int IntKind.i64 0, AV.str [], AV.nils, AV.nils, AV.int IntKind.i64 0] [(0, 1, SX.lit (AV.int IntKind.i64 4)), (3, 1, SX.tmp 39)])), SOper.mk (some 7) none (SOp.a (AOp.newc 30 [AV.int IntKind.i64 0, AV.str [], AV.nils, AV.nils, AV.int IntKind.i64 0])), SOper.mk none none (SOp.w (WOp.store 5 (SX.tmp 7) (SX.tmp 40)))])
  (SCode.seq (SCode.ops [SOper.mk (some 41) none (SOp.p (POp.loadn 5 (SX.tmp 7))), SOper.mk (some 42) none (SOp.call (SX.lit (AV.func 14 [])) [SX.tmp 41]), SOper.mk (some 43) none (SOp.p (POp.move (SX.tmp 3))), SOper.mk (some 44) none (SOp.p (POp.bin BinOp.add EqT.none (SX.tmp 43) (SX.lit (AV.str [41])))), SOper.mk (some 45) none (SOp.p (POp.bin BinOp.eql EqT.none (SX.tmp 42) (SX.tmp 44))), SOper.mk (some 46) none (SOp.p (POp.move (SX.tmp 45))), SOper.mk (some 47) (some (46, true)) (SOp.p (POp.loadn 5 (SX.tmp 7))), SOper.mk (some 48) (some (46, true)) (SOp.call (SX.lit (AV.func 15 [])) [SX.tmp 47]), SOper.mk (some 49) (some (46, true)) (SOp.p (POp.move (SX.tmp 4))), SOper.mk (some 50) (some (46, true)) (SOp.p (POp.bin BinOp.eql EqT.none (SX.tmp 48) (SX.tmp 49))), SOper.mk (some 51) none (SOp.p (POp.pick (SX.tmp 46) (SX.tmp 50) (SX.lit (AV.bool false)))), SOper.mk (some 2) none (SOp.p (POp.move (SX.tmp 51)))])
  SCode.ret)))))))), [ResV.tmp 2]⟩
theorem code3 (own : FuncId → Option (List AV → Heap → R)) (mode : FuncId → Nat) : (slimPrg Try.prog own mode).code 3 = some c3 := by kernel_rfl
-- thunk/thunklaw2.DatumOwn
def c4_l0 : SCode :=
  (SCode.seq (SCode.seq (SCode.ops [SOper.mk (some 37) none (SOp.p (POp.move (SX.tmp 10))), SOper.mk (some 38) none (SOp.p (POp.faddr 3 (SX.tmp 8))), SOper.mk (some 39) none (SOp.p (POp.load1 (SX.tmp 38))), SOper.mk (some 40) none (SOp.p (POp.move (SX.tmp 9))), SOper.mk (some 41) none (SOp.p (POp.iaddr 5 (SX.tmp 39) (SX.tmp 40))), SOper.mk (some 42) none (SOp.p (POp.faddr 3 (SX.tmp 41))), SOper.mk (some 43) none (SOp.p (POp.load1 (SX.tmp 42))), SOper.mk (some 44) none (SOp.p (POp.lenS (SX.tmp 43))), SOper.mk (some 45) none (SOp.p (POp.bin BinOp.lss EqT.none (SX.tmp 37) (SX.tmp 44)))])
  (SCode.cond (SX.tmp 45)
  SCode.skip
  (SCode.exit 2)))
  (SCode.seq (SCode.block 3 (SCode.ops [SOper.mk (some 48) none (SOp.p (POp.faddr 3 (SX.tmp 8))), SOper.mk (some 49) none (SOp.p (POp.load1 (SX.tmp 48))), SOper.mk (some 50) none (SOp.p (POp.move (SX.tmp 9))), SOper.mk (some 51) none (SOp.p (POp.iaddr 5 (SX.tmp 49) (SX.tmp 50))), SOper.mk (some 52) none (SOp.p (POp.faddr 3 (SX.tmp 51))), SOper.mk (some 53) none (SOp.p (POp.load1 (SX.tmp 52))), SOper.mk (some 54) none (SOp.p (POp.move (SX.tmp 10))), SOper.mk (some 55) none (SOp.p (POp.iaddr 5 (SX.tmp 53) (SX.tmp 54))), SOper.mk (some 56) none (SOp.p (POp.faddr 0 (SX.tmp 55))), SOper.mk none none (SOp.w (WOp.store 1 (SX.tmp 56) (SX.lit (AV.int IntKind.i64 0))))]))
  (SCode.ops [SOper.mk (some 46) none (SOp.p (POp.move (SX.tmp 10))), SOper.mk (some 47) none (SOp.p (POp.bin BinOp.add EqT.none (SX.tmp 46) (SX.lit (AV.int IntKind.i64 1)))), SOper.mk (some 10) none (SOp.p (POp.move (SX.tmp 47)))])))
def c4_l1 : SCode :=
  (SCode.seq (SCode.seq (SCode.ops [SOper.mk (some 25) none (SOp.p (POp.move (SX.tmp 9))), SOper.mk (some 26) none (SOp.p (POp.faddr 3 (SX.tmp 8))), SOper.mk (some 27) none (SOp.p (POp.load1 (SX.tmp 26))), SOper.mk (some 28) none (SOp.p (POp.lenS (SX.tmp 27))), SOper.mk (some 29) none (SOp.p (POp.bin BinOp.lss EqT.none (SX.tmp 25) (SX.tmp 28)))])
  (SCode.cond (SX.tmp 29)
  SCode.skip
  (SCode.exit 0)))
  (SCode.seq (SCode.block 1 (SCode.seq (SCode.ops [SOper.mk (some 32) none (SOp.p (POp.faddr 3 (SX.tmp 8))), SOper.mk (some 33) none (SOp.p (POp.load1 (SX.tmp 32))), SOper.mk (some 34) none (SOp.p (POp.move (SX.tmp 9))), SOper.mk (some 35) none (SOp.p (POp.iaddr 5 (SX.tmp 33) (SX.tmp 34))), SOper.mk (some 36) none (SOp.p (POp.faddr 1 (SX.tmp 35))), SOper.mk none none (SOp.w (WOp.store 1 (SX.tmp 36) (SX.lit (AV.str [113]))))])
  (SCode.seq (SCode.ops [SOper.mk (some 10) none (SOp.p (POp.move (SX.lit (AV.int IntKind.i64 0))))])
  (SCode.block 2 (SCode.loop c4_l0)))))
  (SCode.ops [SOper.mk (some 30) none (SOp.p (POp.move (SX.tmp 9))), SOper.mk (some 31) none (SOp.p (POp.bin BinOp.add EqT.none (SX.tmp 30) (SX.lit (AV.int IntKind.i64 1)))), SOper.mk (some 9) none (SOp.p (POp.move (SX.tmp 31)))])))
def c4 : SFunc := ⟨60, (SCode.seq (SCode.ops [SOper.mk (some 4) none (SOp.p (POp.move (SX.lit (AV.bool false))))])
  (SCode.seq (SCode.seq (SCode.ops [SOper.mk (some 11) none (SOp.call (SX.lit (AV.func 11 [])) []), SOper.mk (some 12) none (SOp.p (POp.not (SX.tmp 11)))])
  (SCode.cond (SX.tmp 12)
  (SCode.seq (SCode.ops [SOper.mk (some 4) none (SOp.p (POp.move (SX.lit (AV.bool false))))])
  SCode.ret)
  SCode.skip))
  (SCode.seq (SCode.seq (SCode.ops [SOper.mk (some 13) none (SOp.p (POp.move (SX.tmp 0))), SOper.mk (some 14) none (SOp.call (SX.lit (AV.func 12 [])) [SX.tmp 13]), SOper.mk (some 15) none (SOp.p (POp.not (SX.tmp 14)))])
  (SCode.cond (SX.tmp 15)
  (SCode.seq (SCode.ops [SOper.mk (some 4) none (SOp.p (POp.move (SX.lit (AV.bool true))))])
  SCode.ret)
  SCode.skip))
  (SCode.seq (SCode.ops [SOper.mk (some 5) none (SOp.a (AOp.newc 3 [AV.int IntKind.i64 0])), SOper.mk none none (SOp.w (WOp.store 1 (SX.tmp 5) (SX.lit (AV.int IntKind.i64 0))))])
  (SCode.seq (SCode.ops [SOper.mk (some 16) none (SOp.p (POp.move (SX.tmp 0))), SOper.mk (some 17) none (SOp.call (SX.lit (AV.func 13 [])) [SX.tmp 16]), SOper.mk (some 18) none (SOp.p (POp.build [AV.int IntKind.i64 0, AV.str [], AV.nils, AV.nils, AV.int IntKind.i64 0] [(0, 1, SX.lit (AV.int IntKind.i64 4)), (3, 1, SX.tmp 17)])), SOper.mk (some 19) none (SOp.p (POp.move (SX.tmp 1))), SOper.mk (some 20) none (SOp.call (SX.lit (AV.func 16 [])) [SX.tmp 18, SX.tmp 19, SX.tmp 5]), SOper.mk (some 6) none (SOp.a (AOp.newc 30 [AV.int IntKind.i64 0, AV.str [], AV.nils, AV.nils, AV.int IntKind.i64 0])), SOper.mk none none (SOp.w (WOp.store 5 (SX.tmp 6) (SX.tmp 20)))])
  (SCode.seq (SCode.ops [SOper.mk (some 21) none (SOp.p (POp.loadn 5 (SX.tmp 6))), SOper.mk (some 22) none (SOp.call (SX.lit (AV.func 17 [])) [SX.tmp 21]), SOper.mk (some 7) none (SOp.a (AOp.newc 30 [AV.int IntKind.i64 0, AV.str [], AV.nils, AV.nils, AV.int IntKind.i64 0])), SOper.mk none none (SOp.w (WOp.store 5 (SX.tmp 7) (SX.tmp 22)))])
  (SCode.seq (SCode.ops [SOper.mk (some 23) none (SOp.p (POp.loadn 5 (SX.tmp 6))), SOper.mk (some 24) none (SOp.call (SX.lit (AV.func 18 [])) [SX.tmp 23]), SOper.mk (some 8) none (SOp.a (AOp.newc 30 [AV.int IntKind.i64 0, AV.str [], AV.nils, AV.nils, AV.int IntKind.i64 0])), SOper.mk none none (SOp.w (WOp.store 5 (SX.tmp 8) (SX.tmp 24)))])
  (SCode.seq (SCode.seq (SCode.ops [SOper.mk (some 9) none (SOp.p (POp.move (SX.lit (AV.int IntKind.i64 0))))])
  (SCode.block 0 (SCode.loop c4_l1)))
  (SCode.seq (SCode.ops [SOper.mk (some 57) none (SOp.p (POp.loadn 5 (SX.tmp 6))), SOper.mk (some 58) none (SOp.p (POp.loadn 5 (SX.tmp 7))), SOper.mk (some 59) none (SOp.call (SX.lit (AV.func 19 [])) [SX.tmp 57, SX.tmp 58]), SOper.mk (some 4) none (SOp.p (POp.move (SX.tmp 59)))])
  SCode.ret))))))))), [ResV.tmp 4]⟩
theorem code4 (own : FuncId → Option (List AV → Heap → R)) (mode : FuncId → Nat) : (slimPrg Try.prog own mode).code 4 = some c4 := by kernel_rfl
-- thunk/thunklaw2.DatumKinds
def c5 : SFunc := ⟨61, (SCode.seq (SCode.ops [SOper.mk (some 6) none (SOp.p (POp.move (SX.lit (AV.bool false))))])
  (SCode.seq (SCode.seq (SCode.ops [SOper.mk (some 11) none (SOp.call (SX.lit (AV.func 11 [])) []), SOper.mk (some 12) none (SOp.p (POp.not (SX.tmp 11)))])
  (SCode.cond (SX.tmp 12)
  (SCode.seq (SCode.ops [SOper.mk (some 6) none (SOp.p (POp.move (SX.lit (AV.bool false))))])
  SCode.ret)
  SCode.skip))
  (SCode.seq (SCode.seq (SCode.ops [SOper.mk (some 13) none (SOp.p (POp.move (SX.tmp 2))), SOper.mk (some 14) none (SOp.p (POp.lenT (SX.tmp 13))), SOper.mk (some 15) none (SOp.p (POp.bin BinOp.gtr EqT.none (SX.tmp 14) (SX.lit (AV.int IntKind.i64 60))))])
  (SCode.cond (SX.tmp 15)
  (SCode.seq (SCode.ops [SOper.mk (some 6) none (SOp.p (POp.move (SX.lit (AV.bool true))))])
  SCode.ret)
  SCode.skip))
  (SCode.seq (SCode.ops [SOper.mk (some 16) none (SOp.p (POp.move (SX.tmp 0))), SOper.mk (some 17) none (SOp.call (SX.lit (AV.func 20 [])) [SX.tmp 16, SX.lit (AV.int IntKind.i64 3)]), SOper.mk (some 18) none (SOp.p (POp.bin BinOp.add EqT.none (SX.lit (AV.int IntKind.i64 1)) (SX.tmp 17))), SOper.mk (some 19) none (SOp.p (POp.move (SX.tmp 1))), SOper.mk (some 20) none (SOp.call (SX.lit (AV.func 20 [])) [SX.tmp 19, SX.lit (AV.int IntKind.i64 3)]), SOper.mk (some 21) none (SOp.p (POp.bin BinOp.add EqT.none (SX.lit (AV.int IntKind.i64 1)) (SX.tmp 20))), SOper.mk (some 7) none (SOp.p (POp.move (SX.tmp 18))), SOper.mk (some 8) none (SOp.p (POp.move (SX.tmp 21)))])
  (SCode.seq (SCode.ops [SOper.mk (some 22) none (SOp.p (POp.move (SX.tmp 7))), SOper.mk (some 23) none (SOp.p (POp.move (SX.tmp 2))), SOper.mk (some 24) none (SOp.p (POp.build [AV.int IntKind.i64 0, AV.str [], AV.nils, AV.nils, AV.int IntKind.i64 0] [(0, 1, SX.tmp 22), (1, 1, SX.tmp 23)])), SOper.mk (some 25) none (SOp.p (POp.move (SX.tmp 8))), SOper.mk (some 26) none (SOp.p (POp.move (SX.tmp 2))), SOper.mk (some 27) none (SOp.p (POp.build [AV.int IntKind.i64 0, AV.str [], AV.nils, AV.nils, AV.int IntKind.i64 0] [(0, 1, SX.tmp 25), (1, 1, SX.tmp 26), (4, 1, SX.lit (AV.int IntKind.i64 9))])), SOper.mk (some 9) none (SOp.a (AOp.newc 30 [AV.int IntKind.i64 0, AV.str [], AV.nils, AV.nils, AV.int IntKind.i64 0])), SOper.mk (some 10) none (SOp.a (AOp.newc 30 [AV.int IntKind.i64 0, AV.str [], AV.nils, AV.nils, AV.int IntKind.i64 0])), SOper.mk none none (SOp.w (WOp.store 5 (SX.tmp 9) (SX.tmp 24))), SOper.mk none none (SOp.w (WOp.store 5 (SX.tmp 10) (SX.tmp 27)))])
  (SCode.seq (SCode.ops [SOper.mk (some 28) none (SOp.p (POp.loadn 5 (SX.tmp 9))), SOper.mk (some 29) none (SOp.p (POp.loadn 5 (SX.tmp 10))), SOper.mk (some 30) none (SOp.call (SX.lit (AV.func 21 [])) [SX.tmp 28, SX.tmp 29]), SOper.mk (some 31) none (SOp.p (POp.move (SX.tmp 7))), SOper.mk (some 32) none (SOp.p (POp.move (SX.tmp 8))), SOper.mk (some 33) none (SOp.p (POp.bin BinOp.eql EqT.none (SX.tmp 31) (SX.tmp 32))), SOper.mk (some 34) none (SOp.p (POp.bin BinOp.eql EqT.bool (SX.tmp 30) (SX.tmp 33))), SOper.mk (some 35) none (SOp.p (POp.move (SX.tmp 34))), SOper.mk (some 36) (some (35, true)) (SOp.p (POp.loadn 5 (SX.tmp 9))), SOper.mk (some 37) (some (35, true)) (SOp.p (POp.move (SX.tmp 2))), SOper.mk (some 38) (some (35, true)) (SOp.call (SX.lit (AV.func 22 [])) [SX.tmp 36, SX.tmp 37]), SOper.mk (some 39) (some (35, true)) (SOp.p (POp.move (SX.tmp 7))), SOper.mk (some 40) (some (35, true)) (SOp.p (POp.bin BinOp.eql EqT.none (SX.tmp 39) (SX.lit (AV.int IntKind.i64 3)))), SOper.mk (some 41) (some (35, true)) (SOp.p (POp.bin BinOp.eql EqT.bool (SX.tmp 38) (SX.tmp 40))), SOper.mk (some 42) none (SOp.p (POp.pick (SX.tmp 35) (SX.tmp 41) (SX.lit (AV.bool false)))), SOper.mk (some 43) none (SOp.p (POp.move (SX.tmp 42))), SOper.mk (some 44) (some (43, true)) (SOp.p (POp.loadn 5 (SX.tmp 9))), SOper.mk (some 45) (some (43, true)) (SOp.p (POp.move (SX.tmp 2))), SOper.mk (some 46) (some (43, true)) (SOp.p (POp.bin BinOp.add EqT.none (SX.tmp 45) (SX.lit (AV.str [97])))), SOper.mk (some 47) (some (43, true)) (SOp.call (SX.lit (AV.func 22 [])) [SX.tmp 44, SX.tmp 46]), SOper.mk (some 48) (some (43, true)) (SOp.p (POp.not (SX.tmp 47))), SOper.mk (some 49) none (SOp.p (POp.pick (SX.tmp 43) (SX.tmp 48) (SX.lit (AV.bool false)))), SOper.mk (some 50) none (SOp.p (POp.move (SX.tmp 49))), SOper.mk (some 51) (some (50, true)) (SOp.p (POp.loadn 5 (SX.tmp 9))), SOper.mk (some 52) (some (50, true)) (SOp.call (SX.lit (AV.func 14 [])) [SX.tmp 51]), SOper.mk (some 53) (some (50, true)) (SOp.p (POp.move (SX.tmp 2))), SOper.mk (some 54) (some (50, true)) (SOp.p (POp.bin BinOp.eql EqT.none (SX.tmp 52) (SX.tmp 53))), SOper.mk (some 55) none (SOp.p (POp.pick (SX.tmp 50) (SX.tmp 54) (SX.lit (AV.bool false)))), SOper.mk (some 56) none (SOp.p (POp.move (SX.tmp 55))), SOper.mk (some 57) (some (56, true)) (SOp.p (POp.loadn 5 (SX.tmp 9))), SOper.mk (some 58) (some (56, true)) (SOp.call (SX.lit (AV.func 15 [])) [SX.tmp 57]), SOper.mk (some 59) (some (56, true)) (SOp.p (POp.bin BinOp.eql EqT.none (SX.tmp 58) (SX.lit (AV.int IntKind.i64 1)))), SOper.mk (some 60) none (SOp.p (POp.pick (SX.tmp 56) (SX.tmp 59) (SX.lit (AV.bool false)))), SOper.mk (some 6) none (SOp.p (POp.move (SX.tmp 60)))])
  SCode.ret)))))), [ResV.tmp 6]⟩
theorem code5 (own : FuncId → Option (List AV → Heap → R)) (mode : FuncId → Nat) : (slimPrg Try.prog own mode).code 5 = some c5 := by kernel_rfl
-- thunk/thunklaw2.DatumAll
def c6 : SFunc := ⟨97, (SCode.seq (SCode.ops [SOper.mk (some 8) none (SOp.p (POp.move (SX.lit (AV.bool false))))])
  (SCode.seq (SCode.seq (SCode.ops [SOper.mk (some 14) none (SOp.call (SX.lit (AV.func 11 [])) []), SOper.mk (some 15) none (SOp.p (POp.not (SX.tmp 14)))])
  (SCode.cond (SX.tmp 15)
  (SCode.seq (SCode.ops [SOper.mk (some 8) none (SOp.p (POp.move (SX.lit (AV.bool false))))])
  SCode.ret)
  SCode.skip))
  (SCode.seq (SCode.seq (SCode.ops [SOper.mk (some 16) none (SOp.p (POp.move (SX.tmp 0))), SOper.mk (some 17) none (SOp.call (SX.lit (AV.func 12 [])) [SX.tmp 16]), SOper.mk (some 18) none (SOp.p (POp.not (SX.tmp 17))), SOper.mk (some 19) none (SOp.p (POp.move (SX.tmp 18))), SOper.mk (some 20) (some (19, false)) (SOp.p (POp.move (SX.tmp 1))), SOper.mk (some 21) (some (19, false)) (SOp.call (SX.lit (AV.func 12 [])) [SX.tmp 20]), SOper.mk (some 22) (some (19, false)) (SOp.p (POp.not (SX.tmp 21))), SOper.mk (some 23) none (SOp.p (POp.pick (SX.tmp 19) (SX.lit (AV.bool true)) (SX.tmp 22))), SOper.mk (some 24) none (SOp.p (POp.move (SX.tmp 23))), SOper.mk (some 25) (some (24, false)) (SOp.p (POp.move (SX.tmp 3))), SOper.mk (some 26) (some (24, false)) (SOp.p (POp.lenT (SX.tmp 25))), SOper.mk (some 27) (some (24, false)) (SOp.p (POp.bin BinOp.gtr EqT.none (SX.tmp 26) (SX.lit (AV.int IntKind.i64 60)))), SOper.mk (some 28) none (SOp.p (POp.pick (SX.tmp 24) (SX.lit (AV.bool true)) (SX.tmp 27)))])
  (SCode.cond (SX.tmp 28)
  (SCode.seq (SCode.ops [SOper.mk (some 8) none (SOp.p (POp.move (SX.lit (AV.bool true))))])
  SCode.ret)
  SCode.skip))
  (SCode.seq (SCode.ops [SOper.mk (some 9) none (SOp.a (AOp.newc 3 [AV.int IntKind.i64 0])), SOper.mk none none (SOp.w (WOp.store 1 (SX.tmp 9) (SX.lit (AV.int IntKind.i64 0))))])
  (SCode.seq (SCode.ops [SOper.mk (some 29) none (SOp.p (POp.move (SX.tmp 0))), SOper.mk (some 30) none (SOp.call (SX.lit (AV.func 13 [])) [SX.tmp 29]), SOper.mk (some 31) none (SOp.p (POp.build [AV.int IntKind.i64 0, AV.str [], AV.nils, AV.nils, AV.int IntKind.i64 0] [(0, 1, SX.lit (AV.int IntKind.i64 4)), (3, 1, SX.tmp 30)])), SOper.mk (some 32) none (SOp.p (POp.move (SX.tmp 2))), SOper.mk (some 33) none (SOp.call (SX.lit (AV.func 16 [])) [SX.tmp 31, SX.tmp 32, SX.tmp 9]), SOper.mk (some 10) none (SOp.a (AOp.newc 30 [AV.int IntKind.i64 0, AV.str [], AV.nils, AV.nils, AV.int IntKind.i64 0])), SOper.mk none none (SOp.w (WOp.store 5 (SX.tmp 10) (SX.tmp 33)))])
  (SCode.seq (SCode.ops [SOper.mk (some 34) none (SOp.p (POp.move (SX.tmp 1))), SOper.mk (some 35) none (SOp.call (SX.lit (AV.func 13 [])) [SX.tmp 34]), SOper.mk (some 36) none (SOp.p (POp.build [AV.int IntKind.i64 0, AV.str [], AV.nils, AV.nils, AV.int IntKind.i64 0] [(0, 1, SX.lit (AV.int IntKind.i64 4)), (3, 1, SX.tmp 35)])), SOper.mk (some 37) none (SOp.p (POp.move (SX.tmp 2))), SOper.mk (some 38) none (SOp.call (SX.lit (AV.func 16 [])) [SX.tmp 36, SX.tmp 37, SX.tmp 9]), SOper.mk (some 11) none (SOp.a (AOp.newc 30 [AV.int IntKind.i64 0, AV.str [], AV.nils, AV.nils, AV.int IntKind.i64 0])), SOper.mk none none (SOp.w (WOp.store 5 (SX.tmp 11) (SX.tmp 38)))])
  (SCode.seq (SCode.draw [SOper.mk (some 39) none (SOp.p (POp.loadn 5 (SX.tmp 10))), SOper.mk (some 41) none (SOp.p (POp.loadn 5 (SX.tmp 10))), SOper.mk (some 12) none (SOp.a (AOp.newc 30 [AV.int IntKind.i64 0, AV.str [], AV.nils, AV.nils, AV.int IntKind.i64 0])), SOper.mk (some 13) none (SOp.a (AOp.newc 30 [AV.int IntKind.i64 0, AV.str [], AV.nils, AV.nils, AV.int IntKind.i64 0]))] [(SOper.mk (some 40) none (SOp.call (SX.lit (AV.func 18 [])) [SX.tmp 39]), [SOper.mk (some 41) none (SOp.p (POp.loadn 5 (SX.tmp 10)))], []), (SOper.mk (some 42) none (SOp.call (SX.lit (AV.func 23 [])) [SX.tmp 41]), [], []), (SOper.mk none none (SOp.w (WOp.store 5 (SX.tmp 12) (SX.tmp 40))), [], []), (SOper.mk none none (SOp.w (WOp.store 5 (SX.tmp 13) (SX.tmp 42))), [], [])])
  (SCode.seq (SCode.draw [SOper.mk (some 43) none (SOp.p (POp.loadn 5 (SX.tmp 10))), SOper.mk (some 45) none (SOp.p (POp.loadn 5 (SX.tmp 10)))] [(SOper.mk (some 44) none (SOp.call (SX.lit (AV.func 14 [])) [SX.tmp 43]), [SOper.mk (some 45) none (SOp.p (POp.loadn 5 (SX.tmp 10)))], []), (SOper.mk (some 46) none (SOp.call (SX.lit (AV.func 24 [])) [SX.tmp 45]), [], [SOper.mk (some 47) none (SOp.p (POp.bin BinOp.eql EqT.none (SX.tmp 44) (SX.tmp 46))), SOper.mk (some 48) none (SOp.p (POp.move (SX.tmp 47))), SOper.mk (some 49) (some (48, true)) (SOp.p (POp.loadn 5 (SX.tmp 10))), SOper.mk (some 50) (some (48, true)) (SOp.p (POp.loadn 5 (SX.tmp 11))), SOper.mk (some 52) (some (48, true)) (SOp.p (POp.loadn 5 (SX.tmp 10))), SOper.mk (some 53) (some (48, true)) (SOp.p (POp.loadn 5 (SX.tmp 11)))]), (SOper.mk (some 51) (some (48, true)) (SOp.call (SX.lit (AV.func 21 [])) [SX.tmp 49, SX.tmp 50]), [SOper.mk (some 52) (some (48, true)) (SOp.p (POp.loadn 5 (SX.tmp 10))), SOper.mk (some 53) (some (48, true)) (SOp.p (POp.loadn 5 (SX.tmp 11)))], []), (SOper.mk (some 54) (some (48, true)) (SOp.call (SX.lit (AV.func 25 [])) [SX.tmp 52, SX.tmp 53]), [], [SOper.mk (some 55) (some (48, true)) (SOp.p (POp.bin BinOp.eql EqT.bool (SX.tmp 51) (SX.tmp 54))), SOper.mk (some 56) none (SOp.p (POp.pick (SX.tmp 48) (SX.tmp 55) (SX.lit (AV.bool false)))), SOper.mk (some 57) none (SOp.p (POp.move (SX.tmp 56))), SOper.mk (some 58) (some (57, true)) (SOp.p (POp.loadn 5 (SX.tmp 10))), SOper.mk (some 59) (some (57, true)) (SOp.p (POp.loadn 5 (SX.tmp 10)))]), (SOper.mk (some 60) (some (57, true)) (SOp.call (SX.lit (AV.func 21 [])) [SX.tmp 58, SX.tmp 59]), [], [SOper.mk (some 61) none (SOp.p (POp.pick (SX.tmp 57) (SX.tmp 60) (SX.lit (AV.bool false)))), SOper.mk (some 62) none (SOp.p (POp.move (SX.tmp 61))), SOper.mk (some 63) (some (62, true)) (SOp.p (POp.loadn 5 (SX.tmp 12))), SOper.mk (some 64) (some (62, true)) (SOp.p (POp.loadn 5 (SX.tmp 13)))]), (SOper.mk (some 65) (some (62, true)) (SOp.call (SX.lit (AV.func 19 [])) [SX.tmp 63, SX.tmp 64]), [], [SOper.mk (some 66) none (SOp.p (POp.pick (SX.tmp 62) (SX.tmp 65) (SX.lit (AV.bool false)))), SOper.mk (some 67) none (SOp.p (POp.move (SX.tmp 66))), SOper.mk (some 68) (some (67, true)) (SOp.p (POp.loadn 5 (SX.tmp 10))), SOper.mk (some 70) (some (67, true)) (SOp.p (POp.loadn 5 (SX.tmp 10)))]), (SOper.mk (some 69) (some (67, true)) (SOp.call (SX.lit (AV.func 15 [])) [SX.tmp 68]), [SOper.mk (some 70) (some (67, true)) (SOp.p (POp.loadn 5 (SX.tmp 10)))], []), (SOper.mk (some 71) (some (67, true)) (SOp.call (SX.lit (AV.func 26 [])) [SX.tmp 70]), [], [SOper.mk (some 72) (some (67, true)) (SOp.p (POp.bin BinOp.eql EqT.none (SX.tmp 69) (SX.tmp 71))), SOper.mk (some 73) none (SOp.p (POp.pick (SX.tmp 67) (SX.tmp 72) (SX.lit (AV.bool false)))), SOper.mk (some 74) none (SOp.p (POp.move (SX.tmp 73))), SOper.mk (some 75) (some (74, true)) (SOp.p (POp.loadn 5 (SX.tmp 10))), SOper.mk (some 76) (some (74, true)) (SOp.p (POp.move (SX.tmp 3))), SOper.mk (some 78) (some (74, true)) (SOp.p (POp.loadn 5 (SX.tmp 10))), SOper.mk (some 79) (some (74, true)) (SOp.p (POp.move (SX.tmp 3)))]), (SOper.mk (some 77) (some (74, true)) (SOp.call (SX.lit (AV.func 22 [])) [SX.tmp 75, SX.tmp 76]), [SOper.mk (some 78) (some (74, true)) (SOp.p (POp.loadn 5 (SX.tmp 10)))], []), (SOper.mk (some 80) (some (74, true)) (SOp.call (SX.lit (AV.func 27 [])) [SX.tmp 78, SX.tmp 79]), [], [SOper.mk (some 81) (some (74, true)) (SOp.p (POp.bin BinOp.eql EqT.bool (SX.tmp 77) (SX.tmp 80))), SOper.mk (some 82) none (SOp.p (POp.pick (SX.tmp 74) (SX.tmp 81) (SX.lit (AV.bool false)))), SOper.mk (some 83) none (SOp.p (POp.move (SX.tmp 82))), SOper.mk (some 84) (some (83, true)) (SOp.p (POp.move (SX.tmp 3))), SOper.mk (some 85) (some (83, true)) (SOp.a (AOp.buildS [AV.int IntKind.i64 0] 1 [(0, 1, SX.lit (AV.int IntKind.i64 1))])), SOper.mk (some 86) (some (83, true)) (SOp.p (POp.build [AV.int IntKind.i64 0, AV.str [], AV.nils, AV.nils, AV.int IntKind.i64 0] [(0, 1, SX.lit (AV.int IntKind.i64 3)), (1, 1, SX.tmp 84), (2, 1, SX.tmp 85)])), SOper.mk (some 87) (some (83, true)) (SOp.p (POp.move (SX.tmp 3)))]), (SOper.mk (some 88) (some (83, true)) (SOp.call (SX.lit (AV.func 22 [])) [SX.tmp 86, SX.tmp 87]), [], [SOper.mk (some 89) none (SOp.p (POp.pick (SX.tmp 83) (SX.tmp 88) (SX.lit (AV.bool false)))), SOper.mk (some 90) none (SOp.p (POp.move (SX.tmp 89))), SOper.mk (some 91) (some (90, true)) (SOp.p (POp.move (SX.tmp 3))), SOper.mk (some 92) (some (90, true)) (SOp.p (POp.build [AV.int IntKind.i64 0, AV.str [], AV.nils, AV.nils, AV.int IntKind.i64 0] [(0, 1, SX.lit (AV.int IntKind.i64 2)), (1, 1, SX.tmp 91)])), SOper.mk (some 93) (some (90, true)) (SOp.p (POp.move (SX.tmp 3)))]), (SOper.mk (some 94) (some (90, true)) (SOp.call (SX.lit (AV.func 22 [])) [SX.tmp 92, SX.tmp 93]), [], [SOper.mk (some 95) (some (90, true)) (SOp.p (POp.not (SX.tmp 94))), SOper.mk (some 96) none (SOp.p (POp.pick (SX.tmp 90) (SX.tmp 95) (SX.lit (AV.bool false)))), SOper.mk (some 8) none (SOp.p (POp.move (SX.tmp 96)))])])
  SCode.ret)))))))), [ResV.tmp 8]⟩
theorem code6 (own : FuncId → Option (List AV → Heap → R)) (mode : FuncId → Nat) : (slimPrg Try.prog own mode).code 6 = some c6 := by kernel_rfl
-- thunk/thunklaw2.DatumSame
def c7 : SFunc := ⟨95, (SCode.seq (SCode.ops [SOper.mk (some 8) none (SOp.p (POp.move (SX.lit (AV.bool false))))])
  (SCode.seq (SCode.seq (SCode.ops [SOper.mk (some 16) none (SOp.call (SX.lit (AV.func 11 [])) []), SOper.mk (some 17) none (SOp.p (POp.not (SX.tmp 16)))])
  (SCode.cond (SX.tmp 17)
  (SCode.seq (SCode.ops [SOper.mk (some 8) none (SOp.p (POp.move (SX.lit (AV.bool false))))])
  SCode.ret)
  SCode.skip))
  (SCode.seq (SCode.seq (SCode.ops [SOper.mk (some 18) none (SOp.p (POp.move (SX.tmp 0))), SOper.mk (some 19) none (SOp.call (SX.lit (AV.func 12 [])) [SX.tmp 18]), SOper.mk (some 20) none (SOp.p (POp.not (SX.tmp 19)))])
  (SCode.cond (SX.tmp 20)
  (SCode.seq (SCode.ops [SOper.mk (some 8) none (SOp.p (POp.move (SX.lit (AV.bool true))))])
  SCode.ret)
  SCode.skip))
  (SCode.seq (SCode.ops [SOper.mk (some 9) none (SOp.a (AOp.newc 3 [AV.int IntKind.i64 0])), SOper.mk (some 10) none (SOp.a (AOp.newc 3 [AV.int IntKind.i64 0])), SOper.mk none none (SOp.w (WOp.store 1 (SX.tmp 9) (SX.lit (AV.int IntKind.i64 0)))), SOper.mk none none (SOp.w (WOp.store 1 (SX.tmp 10) (SX.lit (AV.int IntKind.i64 500))))])
  (SCode.seq (SCode.ops [SOper.mk (some 21) none (SOp.p (POp.move (SX.tmp 0))), SOper.mk (some 22) none (SOp.call (SX.lit (AV.func 13 [])) [SX.tmp 21]), SOper.mk (some 23) none (SOp.p (POp.build [AV.int IntKind.i64 0, AV.str [], AV.nils, AV.nils, AV.int IntKind.i64 0] [(0, 1, SX.lit (AV.int IntKind.i64 4)), (3, 1, SX.tmp 22)])), SOper.mk (some 24) none (SOp.p (POp.move (SX.tmp 1))), SOper.mk (some 25) none (SOp.call (SX.lit (AV.func 16 [])) [SX.tmp 23, SX.tmp 24, SX.tmp 9]), SOper.mk (some 11) none (SOp.a (AOp.newc 30 [AV.int IntKind.i64 0, AV.str [], AV.nils, AV.nils, AV.int IntKind.i64 0])), SOper.mk none none (SOp.w (WOp.store 5 (SX.tmp 11) (SX.tmp 25)))])
  (SCode.seq (SCode.ops [SOper.mk (some 26) none (SOp.p (POp.move (SX.tmp 0))), SOper.mk (some 27) none (SOp.call (SX.lit (AV.func 13 [])) [SX.tmp 26]), SOper.mk (some 28) none (SOp.p (POp.build [AV.int IntKind.i64 0, AV.str [], AV.nils, AV.nils, AV.int IntKind.i64 0] [(0, 1, SX.lit (AV.int IntKind.i64 4)), (3, 1, SX.tmp 27)])), SOper.mk (some 29) none (SOp.call (SX.lit (AV.func 16 [])) [SX.tmp 28, SX.lit AV.nils, SX.tmp 10]), SOper.mk (some 12) none (SOp.a (AOp.newc 30 [AV.int IntKind.i64 0, AV.str [], AV.nils, AV.nils, AV.int IntKind.i64 0])), SOper.mk none none (SOp.w (WOp.store 5 (SX.tmp 12) (SX.tmp 29)))])
  (SCode.seq (SCode.ops [SOper.mk none none (SOp.w (WOp.store 1 (SX.tmp 9) (SX.lit (AV.int IntKind.i64 0))))])
  (SCode.seq (SCode.ops [SOper.mk (some 30) none (SOp.p (POp.move (SX.tmp 0))), SOper.mk (some 31) none (SOp.call (SX.lit (AV.func 13 [])) [SX.tmp 30]), SOper.mk (some 32) none (SOp.p (POp.build [AV.int IntKind.i64 0, AV.str [], AV.nils, AV.nils, AV.int IntKind.i64 0] [(0, 1, SX.lit (AV.int IntKind.i64 4)), (3, 1, SX.tmp 31)])), SOper.mk (some 33) none (SOp.p (POp.move (SX.tmp 1))), SOper.mk (some 34) none (SOp.call (SX.lit (AV.func 16 [])) [SX.tmp 32, SX.tmp 33, SX.tmp 9]), SOper.mk (some 13) none (SOp.a (AOp.newc 30 [AV.int IntKind.i64 0, AV.str [], AV.nils, AV.nils, AV.int IntKind.i64 0])), SOper.mk none none (SOp.w (WOp.store 5 (SX.tmp 13) (SX.tmp 34)))])
  (SCode.seq (SCode.ops [SOper.mk (some 35) none (SOp.p (POp.move (SX.tmp 3))), SOper.mk (some 36) none (SOp.p (POp.faddr 4 (SX.tmp 13))), SOper.mk none none (SOp.w (WOp.store 1 (SX.tmp 36) (SX.tmp 35)))])
  (SCode.seq (SCode.ops [SOper.mk (some 37) none (SOp.p (POp.loadn 5 (SX.tmp 13))), SOper.mk (some 38) none (SOp.call (SX.lit (AV.func 17 [])) [SX.tmp 37]), SOper.mk (some 14) none (SOp.a (AOp.newc 30 [AV.int IntKind.i64 0, AV.str [], AV.nils, AV.nils, AV.int IntKind.i64 0])), SOper.mk none none (SOp.w (WOp.store 5 (SX.tmp 14) (SX.tmp 38)))])
  (SCode.seq (SCode.ops [SOper.mk (some 39) none (SOp.p (POp.faddr 3 (SX.tmp 14))), SOper.mk (some 40) none (SOp.p (POp.load1 (SX.tmp 39))), SOper.mk (some 41) none (SOp.p (POp.build [AV.int IntKind.i64 0, AV.str [], AV.nils, AV.nils, AV.int IntKind.i64 0] [(0, 1, SX.lit (AV.int IntKind.i64 3)), (1, 1, SX.lit (AV.str [109, 111, 114, 101]))])), SOper.mk (some 42) none (SOp.a (AOp.buildS [AV.int IntKind.i64 0, AV.str [], AV.nils, AV.nils, AV.int IntKind.i64 0] 1 [(0, 5, SX.tmp 41)])), SOper.mk (some 43) none (SOp.w (WOp.append 30 5 80 (SX.tmp 40) (SX.tmp 42))), SOper.mk (some 44) none (SOp.p (POp.faddr 3 (SX.tmp 14))), SOper.mk none none (SOp.w (WOp.store 1 (SX.tmp 44) (SX.tmp 43)))])
  (SCode.seq (SCode.ops [SOper.mk (some 45) none (SOp.p (POp.loadn 5 (SX.tmp 14))), SOper.mk (some 46) none (SOp.call (SX.lit (AV.func 17 [])) [SX.tmp 45]), SOper.mk (some 15) none (SOp.a (AOp.newc 30 [AV.int IntKind.i64 0, AV.str [], AV.nils, AV.nils, AV.int IntKind.i64 0])), SOper.mk none none (SOp.w (WOp.store 5 (SX.tmp 15) (SX.tmp 46)))])
  (SCode.seq (SCode.draw [SOper.mk (some 47) none (SOp.p (POp.faddr 3 (SX.tmp 15))), SOper.mk (some 48) none (SOp.p (POp.load1 (SX.tmp 47))), SOper.mk (some 49) none (SOp.p (POp.faddr 3 (SX.tmp 15))), SOper.mk (some 50) none (SOp.p (POp.load1 (SX.tmp 49))), SOper.mk (some 51) none (SOp.p (POp.lenS (SX.tmp 50))), SOper.mk (some 52) none (SOp.p (POp.bin BinOp.sub EqT.none (SX.tmp 51) (SX.lit (AV.int IntKind.i64 1)))), SOper.mk (some 53) none (SOp.p (POp.move (SX.tmp 2)))] [(SOper.mk (some 54) none (SOp.call (SX.lit (AV.func 20 [])) [SX.tmp 53, SX.lit (AV.int IntKind.i64 9)]), [SOper.mk (some 48) none (SOp.p (POp.load1 (SX.tmp 47))), SOper.mk (some 50) none (SOp.p (POp.load1 (SX.tmp 49)))], [SOper.mk (some 55) none (SOp.a (AOp.buildS [AV.int IntKind.i64 0] 1 [(0, 1, SX.tmp 54)])), SOper.mk (some 56) none (SOp.p (POp.iaddr 5 (SX.tmp 48) (SX.tmp 52))), SOper.mk (some 57) none (SOp.p (POp.faddr 2 (SX.tmp 56)))]), (SOper.mk none none (SOp.w (WOp.store 1 (SX.tmp 57) (SX.tmp 55))), [], [])])
  (SCode.seq (SCode.draw [SOper.mk (some 58) none (SOp.p (POp.loadn 5 (SX.tmp 11))), SOper.mk (some 59) none (SOp.p (POp.loadn 5 (SX.tmp 13)))] [(SOper.mk (some 60) none (SOp.call (SX.lit (AV.func 21 [])) [SX.tmp 58, SX.tmp 59]), [], [SOper.mk (some 61) none (SOp.p (POp.move (SX.tmp 60))), SOper.mk (some 62) (some (61, true)) (SOp.p (POp.loadn 5 (SX.tmp 11))), SOper.mk (some 64) (some (61, true)) (SOp.p (POp.loadn 5 (SX.tmp 12)))]), (SOper.mk (some 63) (some (61, true)) (SOp.call (SX.lit (AV.func 18 [])) [SX.tmp 62]), [SOper.mk (some 64) (some (61, true)) (SOp.p (POp.loadn 5 (SX.tmp 12)))], []), (SOper.mk (some 65) (some (61, true)) (SOp.call (SX.lit (AV.func 21 [])) [SX.tmp 63, SX.tmp 64]), [], [SOper.mk (some 66) none (SOp.p (POp.pick (SX.tmp 61) (SX.tmp 65) (SX.lit (AV.bool false)))), SOper.mk (some 67) none (SOp.p (POp.move (SX.tmp 66))), SOper.mk (some 68) (some (67, true)) (SOp.p (POp.loadn 5 (SX.tmp 13))), SOper.mk (some 69) (some (67, true)) (SOp.p (POp.loadn 5 (SX.tmp 14)))]), (SOper.mk (some 70) (some (67, true)) (SOp.call (SX.lit (AV.func 21 [])) [SX.tmp 68, SX.tmp 69]), [], [SOper.mk (some 71) (some (67, true)) (SOp.p (POp.not (SX.tmp 70))), SOper.mk (some 72) none (SOp.p (POp.pick (SX.tmp 67) (SX.tmp 71) (SX.lit (AV.bool false)))), SOper.mk (some 73) none (SOp.p (POp.move (SX.tmp 72))), SOper.mk (some 74) (some (73, true)) (SOp.p (POp.loadn 5 (SX.tmp 14))), SOper.mk (some 75) (some (73, true)) (SOp.p (POp.loadn 5 (SX.tmp 15)))]), (SOper.mk (some 76) (some (73, true)) (SOp.call (SX.lit (AV.func 21 [])) [SX.tmp 74, SX.tmp 75]), [], [SOper.mk (some 77) (some (73, true)) (SOp.p (POp.not (SX.tmp 76))), SOper.mk (some 78) none (SOp.p (POp.pick (SX.tmp 73) (SX.tmp 77) (SX.lit (AV.bool false)))), SOper.mk (some 79) none (SOp.p (POp.move (SX.tmp 78))), SOper.mk (some 80) (some (79, true)) (SOp.p (POp.loadn 5 (SX.tmp 14))), SOper.mk (some 82) (some (79, true)) (SOp.p (POp.loadn 5 (SX.tmp 15)))]), (SOper.mk (some 81) (some (79, true)) (SOp.call (SX.lit (AV.func 18 [])) [SX.tmp 80]), [SOper.mk (some 82) (some (79, true)) (SOp.p (POp.loadn 5 (SX.tmp 15)))], []), (SOper.mk (some 83) (some (79, true)) (SOp.call (SX.lit (AV.func 18 [])) [SX.tmp 82]), [], []), (SOper.mk (some 84) (some (79, true)) (SOp.call (SX.lit (AV.func 21 [])) [SX.tmp 81, SX.tmp 83]), [], [SOper.mk (some 85) none (SOp.p (POp.pick (SX.tmp 79) (SX.tmp 84) (SX.lit (AV.bool false)))), SOper.mk (some 86) none (SOp.p (POp.move (SX.tmp 85))), SOper.mk (some 87) (some (86, true)) (SOp.p (POp.loadn 5 (SX.tmp 12))), SOper.mk (some 88) (some (86, true)) (SOp.p (POp.loadn 5 (SX.tmp 11))), SOper.mk (some 90) (some (86, true)) (SOp.p (POp.loadn 5 (SX.tmp 11))), SOper.mk (some 91) (some (86, true)) (SOp.p (POp.loadn 5 (SX.tmp 12)))]), (SOper.mk (some 89) (some (86, true)) (SOp.call (SX.lit (AV.func 21 [])) [SX.tmp 87, SX.tmp 88]), [SOper.mk (some 90) (some (86, true)) (SOp.p (POp.loadn 5 (SX.tmp 11))), SOper.mk (some 91) (some (86, true)) (SOp.p (POp.loadn 5 (SX.tmp 12)))], []), (SOper.mk (some 92) (some (86, true)) (SOp.call (SX.lit (AV.func 21 [])) [SX.tmp 90, SX.tmp 91]), [], [SOper.mk (some 93) (some (86, true)) (SOp.p (POp.bin BinOp.eql EqT.bool (SX.tmp 89) (SX.tmp 92))), SOper.mk (some 94) none (SOp.p (POp.pick (SX.tmp 86) (SX.tmp 93) (SX.lit (AV.bool false)))), SOper.mk (some 8) none (SOp.p (POp.move (SX.tmp 94)))])])
  SCode.ret)))))))))))))), [ResV.tmp 8]⟩
theorem code7 (own : FuncId → Option (List AV → Heap → R)) (mode : FuncId → Nat) : (slimPrg Try.prog own mode).code 7 = some c7 := by kernel_rfl
-- thunk/thunklaw2.DatumPlain
def c8 : SFunc := ⟨42, (SCode.seq (SCode.ops [SOper.mk (some 4) none (SOp.p (POp.move (SX.lit (AV.bool false))))])
  (SCode.seq (SCode.seq (SCode.ops [SOper.mk (some 8) none (SOp.call (SX.lit (AV.func 11 [])) []), SOper.mk (some 9) none (SOp.p (POp.not (SX.tmp 8)))])
  (SCode.cond (SX.tmp 9)
  (SCode.seq (SCode.ops [SOper.mk (some 4) none (SOp.p (POp.move (SX.lit (AV.bool false))))])
  SCode.ret)
  SCode.skip))
  (SCode.seq (SCode.seq (SCode.ops [SOper.mk (some 10) none (SOp.p (POp.move (SX.tmp 0))), SOper.mk (some 11) none (SOp.call (SX.lit (AV.func 12 [])) [SX.tmp 10]), SOper.mk (some 12) none (SOp.p (POp.not (SX.tmp 11)))])
  (SCode.cond (SX.tmp 12)
  (SCode.seq (SCode.ops [SOper.mk (some 4) none (SOp.p (POp.move (SX.lit (AV.bool true))))])
  SCode.ret)
  SCode.skip))
  (SCode.seq (SCode.ops [SOper.mk (some 5) none (SOp.a (AOp.newc 3 [AV.int IntKind.i64 0])), SOper.mk none none (SOp.w (WOp.store 1 (SX.tmp 5) (SX.lit (AV.int IntKind.i64 0))))])
  (SCode.seq (SCode.ops [SOper.mk (some 13) none (SOp.p (POp.move (SX.tmp 0))), SOper.mk (some 14) none (SOp.call (SX.lit (AV.func 13 [])) [SX.tmp 13]), SOper.mk (some 15) none (SOp.p (POp.build [AV.int IntKind.i64 0, AV.str [], AV.nils, AV.nils, AV.int IntKind.i64 0] [(0, 1, SX.lit (AV.int IntKind.i64 4)), (3, 1, SX.tmp 14)])), SOper.mk (some 16) none (SOp.p (POp.move (SX.tmp 1))), SOper.mk (some 17) none (SOp.call (SX.lit (AV.func 16 [])) [SX.tmp 15, SX.tmp 16, SX.tmp 5]), SOper.mk (some 6) none (SOp.a (AOp.newc 30 [AV.int IntKind.i64 0, AV.str [], AV.nils, AV.nils, AV.int IntKind.i64 0])), SOper.mk none none (SOp.w (WOp.store 5 (SX.tmp 6) (SX.tmp 17)))])
  (SCode.seq (SCode.ops [SOper.mk (some 18) none (SOp.p (POp.loadn 5 (SX.tmp 6))), SOper.mk (some 19) none (SOp.call (SX.lit (AV.func 18 [])) [SX.tmp 18]), SOper.mk (some 7) none (SOp.a (AOp.newc 30 [AV.int IntKind.i64 0, AV.str [], AV.nils, AV.nils, AV.int IntKind.i64 0])), SOper.mk none none (SOp.w (WOp.store 5 (SX.tmp 7) (SX.tmp 19)))])
  (SCode.seq (SCode.draw [SOper.mk (some 20) none (SOp.p (POp.loadn 5 (SX.tmp 7))), SOper.mk (some 22) none (SOp.p (POp.loadn 5 (SX.tmp 6)))] [(SOper.mk (some 21) none (SOp.call (SX.lit (AV.func 14 [])) [SX.tmp 20]), [SOper.mk (some 22) none (SOp.p (POp.loadn 5 (SX.tmp 6)))], []), (SOper.mk (some 23) none (SOp.call (SX.lit (AV.func 14 [])) [SX.tmp 22]), [], [SOper.mk (some 24) none (SOp.p (POp.bin BinOp.eql EqT.none (SX.tmp 21) (SX.tmp 23))), SOper.mk (some 25) none (SOp.p (POp.move (SX.tmp 24))), SOper.mk (some 26) (some (25, true)) (SOp.p (POp.loadn 5 (SX.tmp 7))), SOper.mk (some 28) (some (25, true)) (SOp.p (POp.loadn 5 (SX.tmp 6)))]), (SOper.mk (some 27) (some (25, true)) (SOp.call (SX.lit (AV.func 15 [])) [SX.tmp 26]), [SOper.mk (some 28) (some (25, true)) (SOp.p (POp.loadn 5 (SX.tmp 6)))], []), (SOper.mk (some 29) (some (25, true)) (SOp.call (SX.lit (AV.func 15 [])) [SX.tmp 28]), [], [SOper.mk (some 30) (some (25, true)) (SOp.p (POp.bin BinOp.eql EqT.none (SX.tmp 27) (SX.tmp 29))), SOper.mk (some 31) none (SOp.p (POp.pick (SX.tmp 25) (SX.tmp 30) (SX.lit (AV.bool false)))), SOper.mk (some 32) none (SOp.p (POp.move (SX.tmp 31))), SOper.mk (some 33) (some (32, true)) (SOp.p (POp.loadn 5 (SX.tmp 7))), SOper.mk (some 35) (some (32, true)) (SOp.p (POp.loadn 5 (SX.tmp 7)))]), (SOper.mk (some 34) (some (32, true)) (SOp.call (SX.lit (AV.func 18 [])) [SX.tmp 33]), [SOper.mk (some 35) (some (32, true)) (SOp.p (POp.loadn 5 (SX.tmp 7)))], []), (SOper.mk (some 36) (some (32, true)) (SOp.call (SX.lit (AV.func 21 [])) [SX.tmp 34, SX.tmp 35]), [], [SOper.mk (some 37) none (SOp.p (POp.pick (SX.tmp 32) (SX.tmp 36) (SX.lit (AV.bool false)))), SOper.mk (some 38) none (SOp.p (POp.move (SX.tmp 37))), SOper.mk (some 39) (some (38, true)) (SOp.p (POp.loadn 5 (SX.tmp 7)))]), (SOper.mk (some 40) (some (38, true)) (SOp.call (SX.lit (AV.func 28 [])) [SX.tmp 39]), [], [SOper.mk (some 41) none (SOp.p (POp.pick (SX.tmp 38) (SX.tmp 40) (SX.lit (AV.bool false)))), SOper.mk (some 4) none (SOp.p (POp.move (SX.tmp 41)))])])
  SCode.ret))))))), [ResV.tmp 4]⟩
theorem code8 (own : FuncId → Option (List AV → Heap → R)) (mode : FuncId → Nat) : (slimPrg Try.prog own mode).code 8 = some c8 := by kernel_rfl
-- thunk/thunklaw2.DatumDeep
def c9_l0 : SCode :=
  (SCode.seq (SCode.seq (SCode.ops [SOper.mk (some 22) none (SOp.p (POp.move (SX.tmp 10))), SOper.mk (some 23) none (SOp.p (POp.move (SX.tmp 5))), SOper.mk (some 24) none (SOp.p (POp.bin BinOp.lss EqT.none (SX.tmp 22) (SX.tmp 23)))])
  (SCode.cond (SX.tmp 24)
  SCode.skip
  (SCode.exit 0)))
  (SCode.seq (SCode.block 1 (SCode.seq (SCode.ops [SOper.mk (some 27) none (SOp.p (POp.loadn 5 (SX.tmp 9))), SOper.mk (some 28) none (SOp.a (AOp.buildS [AV.int IntKind.i64 0, AV.str [], AV.nils, AV.nils, AV.int IntKind.i64 0] 1 [(0, 5, SX.tmp 27)])), SOper.mk (some 29) none (SOp.p (POp.build [AV.int IntKind.i64 0, AV.str [], AV.nils, AV.nils, AV.int IntKind.i64 0] [(0, 1, SX.lit (AV.int IntKind.i64 4)), (3, 1, SX.tmp 28)])), SOper.mk none none (SOp.w (WOp.store 5 (SX.tmp 9) (SX.tmp 29)))])
  (SCode.ops [SOper.mk (some 30) none (SOp.p (POp.move (SX.tmp 7))), SOper.mk (some 31) none (SOp.p (POp.bin BinOp.add EqT.none (SX.tmp 30) (SX.lit (AV.str [40])))), SOper.mk (some 32) none (SOp.p (POp.move (SX.tmp 8))), SOper.mk (some 33) none (SOp.p (POp.bin BinOp.add EqT.none (SX.tmp 32) (SX.lit (AV.str [41])))), SOper.mk (some 7) none (SOp.p (POp.move (SX.tmp 31))), SOper.mk (some 8) none (SOp.p (POp.move (SX.tmp 33)))])))
  (SCode.ops [SOper.mk (some 25) none (SOp.p (POp.move (SX.tmp 10))), SOper.mk (some 26) none (SOp.p (POp.bin BinOp.add EqT.none (SX.tmp 25) (SX.lit (AV.int IntKind.i64 1)))), SOper.mk (some 10) none (SOp.p (POp.move (SX.tmp 26)))])))
def c9 : SFunc := ⟨66, (SCode.seq (SCode.ops [SOper.mk (some 4) none (SOp.p (POp.move (SX.lit (AV.bool false))))])
  (SCode.seq (SCode.seq (SCode.ops [SOper.mk (some 11) none (SOp.call (SX.lit (AV.func 11 [])) []), SOper.mk (some 12) none (SOp.p (POp.not (SX.tmp 11)))])
  (SCode.cond (SX.tmp 12)
  (SCode.seq (SCode.ops [SOper.mk (some 4) none (SOp.p (POp.move (SX.lit (AV.bool false))))])
  SCode.ret)
  SCode.skip))
  (SCode.seq (SCode.seq (SCode.ops [SOper.mk (some 13) none (SOp.p (POp.move (SX.tmp 0))), SOper.mk (some 14) none (SOp.call (SX.lit (AV.func 12 [])) [SX.tmp 13]), SOper.mk (some 15) none (SOp.p (POp.not (SX.tmp 14)))])
  (SCode.cond (SX.tmp 15)
  (SCode.seq (SCode.ops [SOper.mk (some 4) none (SOp.p (POp.move (SX.lit (AV.bool true))))])
  SCode.ret)
  SCode.skip))
  (SCode.seq (SCode.ops [SOper.mk (some 16) none (SOp.p (POp.move (SX.tmp 1))), SOper.mk (some 17) none (SOp.call (SX.lit (AV.func 20 [])) [SX.tmp 16, SX.lit (AV.int IntKind.i64 50)]), SOper.mk (some 5) none (SOp.p (POp.move (SX.tmp 17)))])
  (SCode.seq (SCode.ops [SOper.mk (some 18) none (SOp.p (POp.move (SX.tmp 0))), SOper.mk (some 19) none (SOp.call (SX.lit (AV.func 13 [])) [SX.tmp 18]), SOper.mk (some 20) none (SOp.p (POp.build [AV.int IntKind.i64 0, AV.str [], AV.nils, AV.nils, AV.int IntKind.i64 0] [(0, 1, SX.lit (AV.int IntKind.i64 4)), (3, 1, SX.tmp 19)])), SOper.mk (some 6) none (SOp.a (AOp.newc 30 [AV.int IntKind.i64 0, AV.str [], AV.nils, AV.nils, AV.int IntKind.i64 0])), SOper.mk none none (SOp.w (WOp.store 5 (SX.tmp 6) (SX.tmp 20)))])
  (SCode.seq (SCode.ops [SOper.mk (some 7) none (SOp.p (POp.move (SX.lit (AV.str [])))), SOper.mk (some 8) none (SOp.p (POp.move (SX.lit (AV.str []))))])
  (SCode.seq (SCode.ops [SOper.mk (some 21) none (SOp.p (POp.loadn 5 (SX.tmp 6))), SOper.mk (some 9) none (SOp.a (AOp.newc 30 [AV.int IntKind.i64 0, AV.str [], AV.nils, AV.nils, AV.int IntKind.i64 0])), SOper.mk none none (SOp.w (WOp.store 5 (SX.tmp 9) (SX.tmp 21)))])
  (SCode.seq (SCode.seq (SCode.ops [SOper.mk (some 10) none (SOp.p (POp.move (SX.lit (AV.int IntKind.i64 0))))])
  (SCode.block 0 (SCode.loop c9_l0)))
  (SCode.seq (SCode.draw [SOper.mk (some 34) none (SOp.p (POp.loadn 5 (SX.tmp 9))), SOper.mk (some 36) none (SOp.p (POp.move (SX.tmp 7))), SOper.mk (some 37) none (SOp.p (POp.loadn 5 (SX.tmp 6))), SOper.mk (some 40) none (SOp.p (POp.move (SX.tmp 8)))] [(SOper.mk (some 35) none (SOp.call (SX.lit (AV.func 14 [])) [SX.tmp 34]), [SOper.mk (some 37) none (SOp.p (POp.loadn 5 (SX.tmp 6)))], []), (SOper.mk (some 38) none (SOp.call (SX.lit (AV.func 14 [])) [SX.tmp 37]), [], [SOper.mk (some 39) none (SOp.p (POp.bin BinOp.add EqT.none (SX.tmp 36) (SX.tmp 38))), SOper.mk (some 41) none (SOp.p (POp.bin BinOp.add EqT.none (SX.tmp 39) (SX.tmp 40))), SOper.mk (some 42) none (SOp.p (POp.bin BinOp.eql EqT.none (SX.tmp 35) (SX.tmp 41))), SOper.mk (some 43) none (SOp.p (POp.move (SX.tmp 42))), SOper.mk (some 44) (some (43, true)) (SOp.p (POp.loadn 5 (SX.tmp 9))), SOper.mk (some 46) (some (43, true)) (SOp.p (POp.loadn 5 (SX.tmp 6))), SOper.mk (some 48) (some (43, true)) (SOp.p (POp.move (SX.tmp 5)))]), (SOper.mk (some 45) (some (43, true)) (SOp.call (SX.lit (AV.func 15 [])) [SX.tmp 44]), [SOper.mk (some 46) (some (43, true)) (SOp.p (POp.loadn 5 (SX.tmp 6)))], []), (SOper.mk (some 47) (some (43, true)) (SOp.call (SX.lit (AV.func 15 [])) [SX.tmp 46]), [], [SOper.mk (some 49) (some (43, true)) (SOp.p (POp.bin BinOp.add EqT.none (SX.tmp 47) (SX.tmp 48))), SOper.mk (some 50) (some (43, true)) (SOp.p (POp.bin BinOp.eql EqT.none (SX.tmp 45) (SX.tmp 49))), SOper.mk (some 51) none (SOp.p (POp.pick (SX.tmp 43) (SX.tmp 50) (SX.lit (AV.bool false)))), SOper.mk (some 52) none (SOp.p (POp.move (SX.tmp 51))), SOper.mk (some 53) (some (52, true)) (SOp.p (POp.loadn 5 (SX.tmp 9))), SOper.mk (some 54) (some (52, true)) (SOp.p (POp.loadn 5 (SX.tmp 6))), SOper.mk (some 56) (some (52, true)) (SOp.p (POp.move (SX.tmp 5))), SOper.mk (some 57) (some (52, true)) (SOp.p (POp.bin BinOp.eql EqT.none (SX.tmp 56) (SX.lit (AV.int IntKind.i64 0))))]), (SOper.mk (some 55) (some (52, true)) (SOp.call (SX.lit (AV.func 21 [])) [SX.tmp 53, SX.tmp 54]), [], [SOper.mk (some 58) (some (52, true)) (SOp.p (POp.bin BinOp.eql EqT.bool (SX.tmp 55) (SX.tmp 57))), SOper.mk (some 59) none (SOp.p (POp.pick (SX.tmp 52) (SX.tmp 58) (SX.lit (AV.bool false)))), SOper.mk (some 60) none (SOp.p (POp.move (SX.tmp 59))), SOper.mk (some 61) (some (60, true)) (SOp.p (POp.loadn 5 (SX.tmp 9))), SOper.mk (some 63) (some (60, true)) (SOp.p (POp.loadn 5 (SX.tmp 9)))]), (SOper.mk (some 62) (some (60, true)) (SOp.call (SX.lit (AV.func 18 [])) [SX.tmp 61]), [SOper.mk (some 63) (some (60, true)) (SOp.p (POp.loadn 5 (SX.tmp 9)))], []), (SOper.mk (some 64) (some (60, true)) (SOp.call (SX.lit (AV.func 25 [])) [SX.tmp 62, SX.tmp 63]), [], [SOper.mk (some 65) none (SOp.p (POp.pick (SX.tmp 60) (SX.tmp 64) (SX.lit (AV.bool false)))), SOper.mk (some 4) none (SOp.p (POp.move (SX.tmp 65)))])])
  SCode.ret))))))))), [ResV.tmp 4]⟩
theorem code9 (own : FuncId → Option (List AV → Heap → R)) (mode : FuncId → Nat) : (slimPrg Try.prog own mode).code 9 = some c9 := by kernel_rfl
-- thunk/thunklaw2.DatumMarks
def c10 : SFunc := ⟨92, (SCode.seq (SCode.ops [SOper.mk (some 4) none (SOp.p (POp.move (SX.lit (AV.bool false))))])
  (SCode.seq (SCode.seq (SCode.ops [SOper.mk (some 10) none (SOp.call (SX.lit (AV.func 11 [])) []), SOper.mk (some 11) none (SOp.p (POp.not (SX.tmp 10)))])
  (SCode.cond (SX.tmp 11)
  (SCode.seq (SCode.ops [SOper.mk (some 4) none (SOp.p (POp.move (SX.lit (AV.bool false))))])
  SCode.ret)
  SCode.skip))
  (SCode.seq (SCode.seq (SCode.ops [SOper.mk (some 12) none (SOp.p (POp.move (SX.tmp 0))), SOper.mk (some 13) none (SOp.p (POp.lenS (SX.tmp 12))), SOper.mk (some 14) none (SOp.p (POp.bin BinOp.gtr EqT.none (SX.tmp 13) (SX.lit (AV.int IntKind.i64 30))))])
  (SCode.cond (SX.tmp 14)
  (SCode.seq (SCode.ops [SOper.mk (some 4) none (SOp.p (POp.move (SX.lit (AV.bool true))))])
  SCode.ret)
  SCode.skip))
  (SCode.seq (SCode.ops [SOper.mk (some 15) none (SOp.a (AOp.buildS [] 0 [])), SOper.mk (some 16) none (SOp.p (POp.move (SX.tmp 0))), SOper.mk (some 17) none (SOp.w (WOp.append 3 1 8 (SX.tmp 15) (SX.tmp 16))), SOper.mk (some 18) none (SOp.p (POp.build [AV.int IntKind.i64 0, AV.str [], AV.nils, AV.nils, AV.int IntKind.i64 0] [(0, 1, SX.lit (AV.int IntKind.i64 3)), (1, 1, SX.lit (AV.str [97])), (2, 1, SX.tmp 17)])), SOper.mk (some 5) none (SOp.a (AOp.newc 30 [AV.int IntKind.i64 0, AV.str [], AV.nils, AV.nils, AV.int IntKind.i64 0])), SOper.mk none none (SOp.w (WOp.store 5 (SX.tmp 5) (SX.tmp 18)))])
  (SCode.seq (SCode.ops [SOper.mk (some 19) none (SOp.a (AOp.buildS [] 0 [])), SOper.mk (some 20) none (SOp.p (POp.move (SX.tmp 0))), SOper.mk (some 21) none (SOp.w (WOp.append 3 1 8 (SX.tmp 19) (SX.tmp 20))), SOper.mk (some 22) none (SOp.a (AOp.buildS [AV.int IntKind.i64 0] 1 [(0, 1, SX.lit (AV.int IntKind.i64 5))])), SOper.mk (some 23) none (SOp.w (WOp.append 3 1 8 (SX.tmp 21) (SX.tmp 22))), SOper.mk (some 24) none (SOp.p (POp.build [AV.int IntKind.i64 0, AV.str [], AV.nils, AV.nils, AV.int IntKind.i64 0] [(0, 1, SX.lit (AV.int IntKind.i64 3)), (1, 1, SX.lit (AV.str [97])), (2, 1, SX.tmp 23)])), SOper.mk (some 6) none (SOp.a (AOp.newc 30 [AV.int IntKind.i64 0, AV.str [], AV.nils, AV.nils, AV.int IntKind.i64 0])), SOper.mk none none (SOp.w (WOp.store 5 (SX.tmp 6) (SX.tmp 24)))])
  (SCode.seq (SCode.ops [SOper.mk (some 25) none (SOp.a (AOp.buildS [] 0 [])), SOper.mk (some 26) none (SOp.p (POp.move (SX.tmp 0))), SOper.mk (some 27) none (SOp.w (WOp.append 3 1 8 (SX.tmp 25) (SX.tmp 26))), SOper.mk (some 28) none (SOp.p (POp.build [AV.int IntKind.i64 0, AV.str [], AV.nils, AV.nils, AV.int IntKind.i64 0] [(0, 1, SX.lit (AV.int IntKind.i64 3)), (1, 1, SX.lit (AV.str [97])), (2, 1, SX.tmp 27)])), SOper.mk (some 7) none (SOp.a (AOp.newc 30 [AV.int IntKind.i64 0, AV.str [], AV.nils, AV.nils, AV.int IntKind.i64 0])), SOper.mk none none (SOp.w (WOp.store 5 (SX.tmp 7) (SX.tmp 28)))])
  (SCode.seq (SCode.ops [SOper.mk (some 8) none (SOp.p (POp.move (SX.lit (AV.bool false))))])
  (SCode.seq (SCode.seq (SCode.ops [SOper.mk (some 29) none (SOp.p (POp.move (SX.tmp 0))), SOper.mk (some 30) none (SOp.p (POp.lenS (SX.tmp 29))), SOper.mk (some 31) none (SOp.p (POp.bin BinOp.gtr EqT.none (SX.tmp 30) (SX.lit (AV.int IntKind.i64 1))))])
  (SCode.cond (SX.tmp 31)
  (SCode.seq (SCode.ops [SOper.mk (some 32) none (SOp.p (POp.move (SX.tmp 1))), SOper.mk (some 33) none (SOp.p (POp.move (SX.tmp 0))), SOper.mk (some 34) none (SOp.p (POp.lenS (SX.tmp 33))), SOper.mk (some 35) none (SOp.p (POp.bin BinOp.sub EqT.none (SX.tmp 34) (SX.lit (AV.int IntKind.i64 1)))), SOper.mk (some 36) none (SOp.call (SX.lit (AV.func 20 [])) [SX.tmp 32, SX.tmp 35]), SOper.mk (some 9) none (SOp.p (POp.move (SX.tmp 36)))])
  (SCode.seq (SCode.draw [SOper.mk (some 37) none (SOp.p (POp.faddr 2 (SX.tmp 7))), SOper.mk (some 38) none (SOp.p (POp.load1 (SX.tmp 37))), SOper.mk (some 39) none (SOp.p (POp.move (SX.tmp 9))), SOper.mk (some 40) none (SOp.p (POp.faddr 2 (SX.tmp 7))), SOper.mk (some 41) none (SOp.p (POp.load1 (SX.tmp 40))), SOper.mk (some 42) none (SOp.p (POp.move (SX.tmp 9))), SOper.mk (some 43) none (SOp.p (POp.bin BinOp.add EqT.none (SX.tmp 42) (SX.lit (AV.int IntKind.i64 1)))), SOper.mk (some 44) none (SOp.p (POp.faddr 2 (SX.tmp 7))), SOper.mk (some 45) none (SOp.p (POp.load1 (SX.tmp 44))), SOper.mk (some 46) none (SOp.p (POp.move (SX.tmp 9))), SOper.mk (some 47) none (SOp.p (POp.bin BinOp.add EqT.none (SX.tmp 46) (SX.lit (AV.int IntKind.i64 1)))), SOper.mk (some 48) none (SOp.p (POp.iaddr 1 (SX.tmp 45) (SX.tmp 47))), SOper.mk (some 49) none (SOp.p (POp.load1 (SX.tmp 48))), SOper.mk (some 50) none (SOp.p (POp.faddr 2 (SX.tmp 7))), SOper.mk (some 51) none (SOp.p (POp.load1 (SX.tmp 50))), SOper.mk (some 52) none (SOp.p (POp.move (SX.tmp 9))), SOper.mk (some 53) none (SOp.p (POp.iaddr 1 (SX.tmp 51) (SX.tmp 52))), SOper.mk (some 54) none (SOp.p (POp.load1 (SX.tmp 53))), SOper.mk (some 55) none (SOp.p (POp.iaddr 1 (SX.tmp 38) (SX.tmp 39)))] [(SOper.mk none none (SOp.w (WOp.store 1 (SX.tmp 55) (SX.tmp 49))), [SOper.mk (some 41) none (SOp.p (POp.load1 (SX.tmp 40)))], [SOper.mk (some 56) none (SOp.p (POp.iaddr 1 (SX.tmp 41) (SX.tmp 43)))]), (SOper.mk none none (SOp.w (WOp.store 1 (SX.tmp 56) (SX.tmp 54))), [], [])])
  (SCode.draw [SOper.mk (some 57) none (SOp.p (POp.faddr 2 (SX.tmp 7))), SOper.mk (some 58) none (SOp.p (POp.load1 (SX.tmp 57))), SOper.mk (some 59) none (SOp.p (POp.move (SX.tmp 9))), SOper.mk (some 60) none (SOp.p (POp.iaddr 1 (SX.tmp 58) (SX.tmp 59))), SOper.mk (some 61) none (SOp.p (POp.load1 (SX.tmp 60))), SOper.mk (some 62) none (SOp.p (POp.faddr 2 (SX.tmp 7))), SOper.mk (some 63) none (SOp.p (POp.load1 (SX.tmp 62))), SOper.mk (some 64) none (SOp.p (POp.move (SX.tmp 9))), SOper.mk (some 65) none (SOp.p (POp.bin BinOp.add EqT.none (SX.tmp 64) (SX.lit (AV.int IntKind.i64 1)))), SOper.mk (some 66) none (SOp.p (POp.iaddr 1 (SX.tmp 63) (SX.tmp 65))), SOper.mk (some 67) none (SOp.p (POp.load1 (SX.tmp 66))), SOper.mk (some 68) none (SOp.p (POp.bin BinOp.neq EqT.none (SX.tmp 61) (SX.tmp 67))), SOper.mk (some 8) none (SOp.p (POp.move (SX.tmp 68)))] [])))
  SCode.skip))
  (SCode.seq (SCode.draw [SOper.mk (some 69) none (SOp.p (POp.loadn 5 (SX.tmp 5))), SOper.mk (some 70) none (SOp.p (POp.loadn 5 (SX.tmp 6)))] [(SOper.mk (some 71) none (SOp.call (SX.lit (AV.func 21 [])) [SX.tmp 69, SX.tmp 70]), [], [SOper.mk (some 72) none (SOp.p (POp.not (SX.tmp 71))), SOper.mk (some 73) none (SOp.p (POp.move (SX.tmp 72))), SOper.mk (some 74) (some (73, true)) (SOp.p (POp.loadn 5 (SX.tmp 5))), SOper.mk (some 75) (some (73, true)) (SOp.p (POp.loadn 5 (SX.tmp 7))), SOper.mk (some 77) (some (73, true)) (SOp.p (POp.move (SX.tmp 8))), SOper.mk (some 78) (some (73, true)) (SOp.p (POp.not (SX.tmp 77)))]), (SOper.mk (some 76) (some (73, true)) (SOp.call (SX.lit (AV.func 21 [])) [SX.tmp 74, SX.tmp 75]), [], [SOper.mk (some 79) (some (73, true)) (SOp.p (POp.bin BinOp.eql EqT.bool (SX.tmp 76) (SX.tmp 78))), SOper.mk (some 80) none (SOp.p (POp.pick (SX.tmp 73) (SX.tmp 79) (SX.lit (AV.bool false)))), SOper.mk (some 81) none (SOp.p (POp.move (SX.tmp 80))), SOper.mk (some 82) (some (81, true)) (SOp.p (POp.loadn 5 (SX.tmp 5))), SOper.mk (some 84) (some (81, true)) (SOp.p (POp.loadn 5 (SX.tmp 6)))]), (SOper.mk (some 83) (some (81, true)) (SOp.call (SX.lit (AV.func 18 [])) [SX.tmp 82]), [SOper.mk (some 84) (some (81, true)) (SOp.p (POp.loadn 5 (SX.tmp 6)))], []), (SOper.mk (some 85) (some (81, true)) (SOp.call (SX.lit (AV.func 18 [])) [SX.tmp 84]), [], []), (SOper.mk (some 86) (some (81, true)) (SOp.call (SX.lit (AV.func 21 [])) [SX.tmp 83, SX.tmp 85]), [], [SOper.mk (some 87) none (SOp.p (POp.pick (SX.tmp 81) (SX.tmp 86) (SX.lit (AV.bool false)))), SOper.mk (some 88) none (SOp.p (POp.move (SX.tmp 87))), SOper.mk (some 89) (some (88, true)) (SOp.p (POp.loadn 5 (SX.tmp 6)))]), (SOper.mk (some 90) (some (88, true)) (SOp.call (SX.lit (AV.func 22 [])) [SX.tmp 89, SX.lit (AV.str [97])]), [], [SOper.mk (some 91) none (SOp.p (POp.pick (SX.tmp 88) (SX.tmp 90) (SX.lit (AV.bool false)))), SOper.mk (some 4) none (SOp.p (POp.move (SX.tmp 91)))])])
  SCode.ret))))))))), [ResV.tmp 4]⟩
theorem code10 (own : FuncId → Option (List AV → Heap → R)) (mode : FuncId → Nat) : (slimPrg Try.prog own mode).code 10 = some c10 := by kernel_rfl
-- thunk/thunklaw2.known
def c11 : SFunc := ⟨13, (SCode.seq (SCode.ops [SOper.mk (some 0) none (SOp.p (POp.move (SX.lit (AV.bool false))))])
  (SCode.seq (SCode.ops [SOper.mk (some 1) none (SOp.p (POp.build [AV.int IntKind.i64 0, AV.str [], AV.nils, AV.nils, AV.int IntKind.i64 0] [(0, 1, SX.lit (AV.int IntKind.i64 4))])), SOper.mk (some 2) none (SOp.call (SX.lit (AV.func 14 [])) [SX.tmp 1]), SOper.mk (some 3) none (SOp.p (POp.bin BinOp.eql EqT.none (SX.tmp 2) (SX.lit (AV.str [40, 41])))), SOper.mk (some 4) none (SOp.p (POp.move (SX.tmp 3))), SOper.mk (some 5) (some (4, true)) (SOp.p (POp.build [AV.int IntKind.i64 0, AV.str [], AV.nils, AV.nils, AV.int IntKind.i64 0] [(0, 1, SX.lit (AV.int IntKind.i64 3)), (1, 1, SX.lit (AV.str [97]))])), SOper.mk (some 6) (some (4, true)) (SOp.call (SX.lit (AV.func 22 [])) [SX.tmp 5, SX.lit (AV.str [97])]), SOper.mk (some 7) none (SOp.p (POp.pick (SX.tmp 4) (SX.tmp 6) (SX.lit (AV.bool false)))), SOper.mk (some 8) none (SOp.p (POp.move (SX.tmp 7))), SOper.mk (some 9) (some (8, true)) (SOp.p (POp.build [AV.int IntKind.i64 0, AV.str [], AV.nils, AV.nils, AV.int IntKind.i64 0] [(0, 1, SX.lit (AV.int IntKind.i64 1)), (1, 1, SX.lit (AV.str [49]))])), SOper.mk (some 10) (some (8, true)) (SOp.call (SX.lit (AV.func 15 [])) [SX.tmp 9]), SOper.mk (some 11) (some (8, true)) (SOp.p (POp.bin BinOp.eql EqT.none (SX.tmp 10) (SX.lit (AV.int IntKind.i64 1)))), SOper.mk (some 12) none (SOp.p (POp.pick (SX.tmp 8) (SX.tmp 11) (SX.lit (AV.bool false)))), SOper.mk (some 0) none (SOp.p (POp.move (SX.tmp 12)))])
  SCode.ret)), [ResV.tmp 0]⟩
theorem code11 (own : FuncId → Option (List AV → Heap → R)) (mode : FuncId → Nat) : (slimPrg Try.prog own mode).code 11 = some c11 := by kernel_rfl
-- thunk/thunklaw2.Few
def c12 : SFunc := ⟨6, (SCode.seq (SCode.ops [SOper.mk (some 2) none (SOp.p (POp.move (SX.lit (AV.bool false))))])
  (SCode.seq (SCode.ops [SOper.mk (some 3) none (SOp.p (POp.move (SX.tmp 0))), SOper.mk (some 4) none (SOp.call (SX.lit (AV.func 29 [])) [SX.tmp 3, SX.lit (AV.int IntKind.i64 0)]), SOper.mk (some 5) none (SOp.p (POp.bin BinOp.leq EqT.none (SX.tmp 4) (SX.lit (AV.int IntKind.i64 60)))), SOper.mk (some 2) none (SOp.p (POp.move (SX.tmp 5)))])
  SCode.ret)), [ResV.tmp 2]⟩
theorem code12 (own : FuncId → Option (List AV → Heap → R)) (mode : FuncId → Nat) : (slimPrg Try.prog own mode).code 12 = some c12 := by kernel_rfl
-- thunk/thunklaw2.All
def c13_l0 : SCode :=
  (SCode.seq (SCode.seq (SCode.ops [SOper.mk (some 5) none (SOp.p (POp.move (SX.tmp 4))), SOper.mk (some 6) none (SOp.p (POp.move (SX.tmp 0))), SOper.mk (some 7) none (SOp.p (POp.lenS (SX.tmp 6))), SOper.mk (some 8) none (SOp.p (POp.bin BinOp.lss EqT.none (SX.tmp 5) (SX.tmp 7)))])
  (SCode.cond (SX.tmp 8)
  SCode.skip
  (SCode.exit 0)))
  (SCode.seq (SCode.block 1 (SCode.ops [SOper.mk (some 11) none (SOp.p (POp.move (SX.tmp 3))), SOper.mk (some 12) none (SOp.p (POp.move (SX.tmp 0))), SOper.mk (some 13) none (SOp.p (POp.move (SX.tmp 4))), SOper.mk (some 14) none (SOp.p (POp.iaddr 3 (SX.tmp 12) (SX.tmp 13))), SOper.mk (some 15) none (SOp.p (POp.loadn 3 (SX.tmp 14))), SOper.mk (some 16) none (SOp.call (SX.lit (AV.func 30 [])) [SX.tmp 15]), SOper.mk (some 17) none (SOp.a (AOp.buildS [AV.int IntKind.i64 0, AV.str [], AV.nils, AV.nils, AV.int IntKind.i64 0] 1 [(0, 5, SX.tmp 16)])), SOper.mk (some 18) none (SOp.w (WOp.append 30 5 80 (SX.tmp 11) (SX.tmp 17))), SOper.mk (some 3) none (SOp.p (POp.move (SX.tmp 18)))]))
  (SCode.ops [SOper.mk (some 9) none (SOp.p (POp.move (SX.tmp 4))), SOper.mk (some 10) none (SOp.p (POp.bin BinOp.add EqT.none (SX.tmp 9) (SX.lit (AV.int IntKind.i64 1)))), SOper.mk (some 4) none (SOp.p (POp.move (SX.tmp 10)))])))
def c13 : SFunc := ⟨20, (SCode.seq (SCode.ops [SOper.mk (some 2) none (SOp.p (POp.move (SX.lit AV.nils)))])
  (SCode.seq (SCode.ops [SOper.mk (some 3) none (SOp.p (POp.move (SX.lit AV.nils)))])
  (SCode.seq (SCode.seq (SCode.ops [SOper.mk (some 4) none (SOp.p (POp.move (SX.lit (AV.int IntKind.i64 0))))])
  (SCode.block 0 (SCode.loop c13_l0)))
  (SCode.seq (SCode.ops [SOper.mk (some 19) none (SOp.p (POp.move (SX.tmp 3))), SOper.mk (some 2) none (SOp.p (POp.move (SX.tmp 19)))])
  SCode.ret)))), [ResV.tmp 2]⟩
theorem code13 (own : FuncId → Option (List AV → Heap → R)) (mode : FuncId → Nat) : (slimPrg Try.prog own mode).code 13 = some c13 := by kernel_rfl
-- thunk/datum.Text
def c14 : SFunc := ⟨8, (SCode.seq (SCode.ops [SOper.mk (some 1) none (SOp.a (AOp.box 30 (SX.tmp 0))), SOper.mk (some 2) none (SOp.p (POp.move (SX.lit (AV.str []))))])
  (SCode.seq (SCode.ops [SOper.mk (some 3) none (SOp.a (AOp.newc 54 [AV.nilp, AV.nils]))])
  (SCode.seq (SCode.ops [SOper.mk (some 4) none (SOp.p (POp.loadn 5 (SX.tmp 1))), SOper.mk (some 5) none (SOp.call (SX.lit (AV.func 31 [])) [SX.tmp 3, SX.tmp 4])])
  (SCode.seq (SCode.ops [SOper.mk (some 6) none (SOp.p (POp.faddr 0 (SX.tmp 3))), SOper.mk (some 7) none (SOp.call (SX.lit (AV.func 32 [])) [SX.tmp 6]), SOper.mk (some 2) none (SOp.p (POp.move (SX.tmp 7)))])
  SCode.ret)))), [ResV.tmp 2]⟩
theorem code14 (own : FuncId → Option (List AV → Heap → R)) (mode : FuncId → Nat) : (slimPrg Try.prog own mode).code 14 = some c14 := by kernel_rfl
-- thunk/datum.Size
def c15_l0 : SCode :=
  (SCode.seq (SCode.ops [SOper.mk (some 10) none (SOp.p (POp.bin BinOp.lss EqT.none (SX.tmp 9) (SX.tmp 8)))])
  (SCode.seq (SCode.cond (SX.tmp 10)
  SCode.skip
  (SCode.exit 0))
  (SCode.seq (SCode.block 1 (SCode.seq (SCode.ops [SOper.mk (some 11) none (SOp.p (POp.iaddr 5 (SX.tmp 7) (SX.tmp 9))), SOper.mk (some 12) none (SOp.p (POp.loadn 5 (SX.tmp 11))), SOper.mk (some 5) none (SOp.a (AOp.newc 30 [AV.int IntKind.i64 0, AV.str [], AV.nils, AV.nils, AV.int IntKind.i64 0])), SOper.mk none none (SOp.w (WOp.store 5 (SX.tmp 5) (SX.tmp 12)))])
  (SCode.ops [SOper.mk (some 13) none (SOp.p (POp.move (SX.tmp 3))), SOper.mk (some 14) none (SOp.p (POp.loadn 5 (SX.tmp 5))), SOper.mk (some 15) none (SOp.call (SX.lit (AV.func 15 [])) [SX.tmp 14]), SOper.mk (some 16) none (SOp.p (POp.bin BinOp.add EqT.none (SX.tmp 13) (SX.tmp 15))), SOper.mk (some 3) none (SOp.p (POp.move (SX.tmp 16)))])))
  (SCode.ops [SOper.mk (some 17) none (SOp.p (POp.bin BinOp.add EqT.none (SX.tmp 9) (SX.lit (AV.int IntKind.i64 1)))), SOper.mk (some 9) none (SOp.p (POp.move (SX.tmp 17)))]))))
def c15 : SFunc := ⟨19, (SCode.seq (SCode.ops [SOper.mk (some 1) none (SOp.a (AOp.box 30 (SX.tmp 0))), SOper.mk (some 2) none (SOp.p (POp.move (SX.lit (AV.int IntKind.i64 0))))])
  (SCode.seq (SCode.ops [SOper.mk (some 3) none (SOp.p (POp.move (SX.lit (AV.int IntKind.i64 1))))])
  (SCode.seq (SCode.seq (SCode.ops [SOper.mk (some 6) none (SOp.p (POp.faddr 3 (SX.tmp 1))), SOper.mk (some 7) none (SOp.p (POp.load1 (SX.tmp 6))), SOper.mk (some 8) none (SOp.p (POp.lenS (SX.tmp 7))), SOper.mk (some 9) none (SOp.p (POp.move (SX.lit (AV.int IntKind.i64 0))))])
  (SCode.block 0 (SCode.loop c15_l0)))
  (SCode.seq (SCode.ops [SOper.mk (some 18) none (SOp.p (POp.move (SX.tmp 3))), SOper.mk (some 2) none (SOp.p (POp.move (SX.tmp 18)))])
  SCode.ret)))), [ResV.tmp 2]⟩
theorem code15 (own : FuncId → Option (List AV → Heap → R)) (mode : FuncId → Nat) : (slimPrg Try.prog own mode).code 15 = some c15 := by kernel_rfl
-- thunk/thunklaw2.Marked
def c16_l0 : SCode :=
  (SCode.seq (SCode.seq (SCode.ops [SOper.mk (some 17) none (SOp.p (POp.faddr 0 (SX.tmp 3))), SOper.mk (some 18) none (SOp.p (POp.load1 (SX.tmp 17))), SOper.mk (some 19) none (SOp.p (POp.bin BinOp.eql EqT.none (SX.tmp 18) (SX.lit (AV.int IntKind.i64 3)))), SOper.mk (some 20) none (SOp.p (POp.move (SX.tmp 19))), SOper.mk (some 21) (some (20, true)) (SOp.p (POp.move (SX.tmp 2))), SOper.mk (some 22) (some (20, true)) (SOp.p (POp.nilchk (SX.tmp 21))), SOper.mk (some 23) (some (20, true)) (SOp.p (POp.load1 (SX.tmp 22))), SOper.mk (some 24) (some (20, true)) (SOp.p (POp.move (SX.tmp 1))), SOper.mk (some 25) (some (20, true)) (SOp.p (POp.lenS (SX.tmp 24))), SOper.mk (some 26) (some (20, true)) (SOp.p (POp.bin BinOp.lss EqT.none (SX.tmp 23) (SX.tmp 25))), SOper.mk (some 27) none (SOp.p (POp.pick (SX.tmp 20) (SX.tmp 26) (SX.lit (AV.bool false)))), SOper.mk (some 28) none (SOp.p (POp.move (SX.tmp 27))), SOper.mk (some 29) (some (28, true)) (SOp.p (POp.move (SX.tmp 1))), SOper.mk (some 30) (some (28, true)) (SOp.p (POp.move (SX.tmp 2))), SOper.mk (some 31) (some (28, true)) (SOp.p (POp.nilchk (SX.tmp 30))), SOper.mk (some 32) (some (28, true)) (SOp.p (POp.load1 (SX.tmp 31))), SOper.mk (some 33) (some (28, true)) (SOp.p (POp.iaddr 1 (SX.tmp 29) (SX.tmp 32))), SOper.mk (some 34) (some (28, true)) (SOp.p (POp.load1 (SX.tmp 33))), SOper.mk (some 35) (some (28, true)) (SOp.call (SX.lit (AV.func 20 [])) [SX.tmp 34, SX.lit (AV.int IntKind.i64 3)]), SOper.mk (some 36) (some (28, true)) (SOp.p (POp.bin BinOp.gtr EqT.none (SX.tmp 35) (SX.lit (AV.int IntKind.i64 0)))), SOper.mk (some 37) none (SOp.p (POp.pick (SX.tmp 28) (SX.tmp 36) (SX.lit (AV.bool false)))), SOper.mk (some 38) none (SOp.p (POp.move (SX.tmp 37))), SOper.mk (some 39) (some (38, true)) (SOp.p (POp.faddr 2 (SX.tmp 7))), SOper.mk (some 40) (some (38, true)) (SOp.p (POp.load1 (SX.tmp 39))), SOper.mk (some 41) (some (38, true)) (SOp.p (POp.lenS (SX.tmp 40))), SOper.mk (some 42) (some (38, true)) (SOp.p (POp.bin BinOp.lss EqT.none (SX.tmp 41) (SX.lit (AV.int IntKind.i64 4)))), SOper.mk (some 43) none (SOp.p (POp.pick (SX.tmp 38) (SX.tmp 42) (SX.lit (AV.bool false))))])
  (SCode.cond (SX.tmp 43)
  SCode.skip
  (SCode.exit 0)))
  (SCode.block 1 (SCode.seq (SCode.draw [SOper.mk (some 44) none (SOp.p (POp.faddr 2 (SX.tmp 7))), SOper.mk (some 45) none (SOp.p (POp.load1 (SX.tmp 44))), SOper.mk (some 46) none (SOp.p (POp.move (SX.tmp 1))), SOper.mk (some 47) none (SOp.p (POp.move (SX.tmp 2))), SOper.mk (some 48) none (SOp.p (POp.nilchk (SX.tmp 47))), SOper.mk (some 49) none (SOp.p (POp.load1 (SX.tmp 48))), SOper.mk (some 50) none (SOp.p (POp.iaddr 1 (SX.tmp 46) (SX.tmp 49))), SOper.mk (some 51) none (SOp.p (POp.load1 (SX.tmp 50)))] [(SOper.mk (some 52) none (SOp.call (SX.lit (AV.func 20 [])) [SX.tmp 51, SX.lit (AV.int IntKind.i64 5)]), [SOper.mk (some 45) none (SOp.p (POp.load1 (SX.tmp 44)))], [SOper.mk (some 53) none (SOp.p (POp.bin BinOp.add EqT.none (SX.lit (AV.int IntKind.i64 1)) (SX.tmp 52))), SOper.mk (some 54) none (SOp.a (AOp.buildS [AV.int IntKind.i64 0] 1 [(0, 1, SX.tmp 53)]))]), (SOper.mk (some 55) none (SOp.w (WOp.append 3 1 8 (SX.tmp 45) (SX.tmp 54))), [], [SOper.mk (some 56) none (SOp.p (POp.faddr 2 (SX.tmp 7)))]), (SOper.mk none none (SOp.w (WOp.store 1 (SX.tmp 56) (SX.tmp 55))), [], [])])
  (SCode.ops [SOper.mk (some 57) none (SOp.p (POp.move (SX.tmp 2))), SOper.mk (some 58) none (SOp.p (POp.nilchk (SX.tmp 57))), SOper.mk (some 59) none (SOp.p (POp.load1 (SX.tmp 58))), SOper.mk (some 60) none (SOp.p (POp.bin BinOp.add EqT.none (SX.tmp 59) (SX.lit (AV.int IntKind.i64 1)))), SOper.mk (some 61) none (SOp.p (POp.nilchk (SX.tmp 57))), SOper.mk none none (SOp.w (WOp.store 1 (SX.tmp 61) (SX.tmp 60)))]))))
def c16_l1 : SCode :=
  (SCode.seq (SCode.seq (SCode.ops [SOper.mk (some 67) none (SOp.p (POp.move (SX.tmp 8))), SOper.mk (some 68) none (SOp.p (POp.faddr 3 (SX.tmp 3))), SOper.mk (some 69) none (SOp.p (POp.load1 (SX.tmp 68))), SOper.mk (some 70) none (SOp.p (POp.lenS (SX.tmp 69))), SOper.mk (some 71) none (SOp.p (POp.bin BinOp.lss EqT.none (SX.tmp 67) (SX.tmp 70)))])
  (SCode.cond (SX.tmp 71)
  SCode.skip
  (SCode.exit 2)))
  (SCode.seq (SCode.block 3 (SCode.draw [SOper.mk (some 74) none (SOp.p (POp.faddr 3 (SX.tmp 7))), SOper.mk (some 75) none (SOp.p (POp.load1 (SX.tmp 74))), SOper.mk (some 76) none (SOp.p (POp.faddr 3 (SX.tmp 3))), SOper.mk (some 77) none (SOp.p (POp.load1 (SX.tmp 76))), SOper.mk (some 78) none (SOp.p (POp.move (SX.tmp 8))), SOper.mk (some 79) none (SOp.p (POp.iaddr 5 (SX.tmp 77) (SX.tmp 78))), SOper.mk (some 80) none (SOp.p (POp.loadn 5 (SX.tmp 79))), SOper.mk (some 81) none (SOp.p (POp.move (SX.tmp 1))), SOper.mk (some 82) none (SOp.p (POp.move (SX.tmp 2)))] [(SOper.mk (some 83) none (SOp.call (SX.lit (AV.func 16 [])) [SX.tmp 80, SX.tmp 81, SX.tmp 82]), [SOper.mk (some 75) none (SOp.p (POp.load1 (SX.tmp 74)))], [SOper.mk (some 84) none (SOp.a (AOp.buildS [AV.int IntKind.i64 0, AV.str [], AV.nils, AV.nils, AV.int IntKind.i64 0] 1 [(0, 5, SX.tmp 83)]))]), (SOper.mk (some 85) none (SOp.w (WOp.append 30 5 80 (SX.tmp 75) (SX.tmp 84))), [], [SOper.mk (some 86) none (SOp.p (POp.faddr 3 (SX.tmp 7)))]), (SOper.mk none none (SOp.w (WOp.store 1 (SX.tmp 86) (SX.tmp 85))), [], [])]))
  (SCode.ops [SOper.mk (some 72) none (SOp.p (POp.move (SX.tmp 8))), SOper.mk (some 73) none (SOp.p (POp.bin BinOp.add EqT.none (SX.tmp 72) (SX.lit (AV.int IntKind.i64 1)))), SOper.mk (some 8) none (SOp.p (POp.move (SX.tmp 73)))])))
def c16 : SFunc := ⟨88, (SCode.seq (SCode.ops [SOper.mk (some 3) none (SOp.a (AOp.box 30 (SX.tmp 0))), SOper.mk (some 6) none (SOp.a (AOp.newc 30 [AV.int IntKind.i64 0, AV.str [], AV.nils, AV.nils, AV.int IntKind.i64 0]))])
  (SCode.seq (SCode.draw [SOper.mk (some 9) none (SOp.p (POp.faddr 0 (SX.tmp 3))), SOper.mk (some 10) none (SOp.p (POp.load1 (SX.tmp 9))), SOper.mk (some 11) none (SOp.p (POp.faddr 1 (SX.tmp 3))), SOper.mk (some 12) none (SOp.p (POp.load1 (SX.tmp 11))), SOper.mk (some 13) none (SOp.p (POp.move (SX.tmp 2))), SOper.mk (some 14) none (SOp.p (POp.nilchk (SX.tmp 13))), SOper.mk (some 15) none (SOp.p (POp.load1 (SX.tmp 14))), SOper.mk (some 16) none (SOp.p (POp.build [AV.int IntKind.i64 0, AV.str [], AV.nils, AV.nils, AV.int IntKind.i64 0] [(0, 1, SX.tmp 10), (1, 1, SX.tmp 12), (4, 1, SX.tmp 15)])), SOper.mk (some 7) none (SOp.a (AOp.newc 30 [AV.int IntKind.i64 0, AV.str [], AV.nils, AV.nils, AV.int IntKind.i64 0]))] [(SOper.mk none none (SOp.w (WOp.store 5 (SX.tmp 7) (SX.tmp 16))), [], [])])
  (SCode.seq (SCode.block 0 (SCode.loop c16_l0))
  (SCode.seq (SCode.ops [SOper.mk (some 62) none (SOp.p (POp.move (SX.tmp 2))), SOper.mk (some 63) none (SOp.p (POp.nilchk (SX.tmp 62))), SOper.mk (some 64) none (SOp.p (POp.load1 (SX.tmp 63))), SOper.mk (some 65) none (SOp.p (POp.bin BinOp.add EqT.none (SX.tmp 64) (SX.lit (AV.int IntKind.i64 1)))), SOper.mk (some 66) none (SOp.p (POp.nilchk (SX.tmp 62))), SOper.mk none none (SOp.w (WOp.store 1 (SX.tmp 66) (SX.tmp 65)))])
  (SCode.seq (SCode.seq (SCode.ops [SOper.mk (some 8) none (SOp.p (POp.move (SX.lit (AV.int IntKind.i64 0))))])
  (SCode.block 2 (SCode.loop c16_l1)))
  (SCode.seq (SCode.ops [SOper.mk (some 87) none (SOp.p (POp.loadn 5 (SX.tmp 7))), SOper.mk none none (SOp.w (WOp.store 5 (SX.tmp 6) (SX.tmp 87)))])
  SCode.ret)))))), [ResV.celln 6 5]⟩
theorem code16 (own : FuncId → Option (List AV → Heap → R)) (mode : FuncId → Nat) : (slimPrg Try.prog own mode).code 16 = some c16 := by kernel_rfl
-- thunk/thunkref2.Copy
def c17_l0 : SCode :=
  (SCode.seq (SCode.seq (SCode.ops [SOper.mk (some 16) none (SOp.p (POp.move (SX.tmp 4))), SOper.mk (some 17) none (SOp.p (POp.faddr 3 (SX.tmp 1))), SOper.mk (some 18) none (SOp.p (POp.load1 (SX.tmp 17))), SOper.mk (some 19) none (SOp.p (POp.lenS (SX.tmp 18))), SOper.mk (some 20) none (SOp.p (POp.bin BinOp.lss EqT.none (SX.tmp 16) (SX.tmp 19)))])
  (SCode.cond (SX.tmp 20)
  SCode.skip
  (SCode.exit 0)))
  (SCode.seq (SCode.block 1 (SCode.draw [SOper.mk (some 23) none (SOp.p (POp.faddr 3 (SX.tmp 3))), SOper.mk (some 24) none (SOp.p (POp.load1 (SX.tmp 23))), SOper.mk (some 25) none (SOp.p (POp.faddr 3 (SX.tmp 1))), SOper.mk (some 26) none (SOp.p (POp.load1 (SX.tmp 25))), SOper.mk (some 27) none (SOp.p (POp.move (SX.tmp 4))), SOper.mk (some 28) none (SOp.p (POp.iaddr 5 (SX.tmp 26) (SX.tmp 27))), SOper.mk (some 29) none (SOp.p (POp.loadn 5 (SX.tmp 28)))] [(SOper.mk (some 30) none (SOp.call (SX.lit (AV.func 17 [])) [SX.tmp 29]), [SOper.mk (some 24) none (SOp.p (POp.load1 (SX.tmp 23)))], [SOper.mk (some 31) none (SOp.a (AOp.buildS [AV.int IntKind.i64 0, AV.str [], AV.nils, AV.nils, AV.int IntKind.i64 0] 1 [(0, 5, SX.tmp 30)]))]), (SOper.mk (some 32) none (SOp.w (WOp.append 30 5 80 (SX.tmp 24) (SX.tmp 31))), [], [SOper.mk (some 33) none (SOp.p (POp.faddr 3 (SX.tmp 3)))]), (SOper.mk none none (SOp.w (WOp.store 1 (SX.tmp 33) (SX.tmp 32))), [], [])]))
  (SCode.ops [SOper.mk (some 21) none (SOp.p (POp.move (SX.tmp 4))), SOper.mk (some 22) none (SOp.p (POp.bin BinOp.add EqT.none (SX.tmp 21) (SX.lit (AV.int IntKind.i64 1)))), SOper.mk (some 4) none (SOp.p (POp.move (SX.tmp 22)))])))
def c17 : SFunc := ⟨35, (SCode.seq (SCode.ops [SOper.mk (some 1) none (SOp.a (AOp.box 30 (SX.tmp 0))), SOper.mk (some 2) none (SOp.a (AOp.newc 30 [AV.int IntKind.i64 0, AV.str [], AV.nils, AV.nils, AV.int IntKind.i64 0]))])
  (SCode.seq (SCode.draw [SOper.mk (some 5) none (SOp.p (POp.faddr 0 (SX.tmp 1))), SOper.mk (some 6) none (SOp.p (POp.load1 (SX.tmp 5))), SOper.mk (some 7) none (SOp.p (POp.faddr 1 (SX.tmp 1))), SOper.mk (some 8) none (SOp.p (POp.load1 (SX.tmp 7))), SOper.mk (some 9) none (SOp.a (AOp.buildS [] 0 [])), SOper.mk (some 10) none (SOp.p (POp.faddr 2 (SX.tmp 1))), SOper.mk (some 11) none (SOp.p (POp.load1 (SX.tmp 10))), SOper.mk (some 13) none (SOp.p (POp.faddr 4 (SX.tmp 1))), SOper.mk (some 14) none (SOp.p (POp.load1 (SX.tmp 13))), SOper.mk (some 3) none (SOp.a (AOp.newc 30 [AV.int IntKind.i64 0, AV.str [], AV.nils, AV.nils, AV.int IntKind.i64 0]))] [(SOper.mk (some 12) none (SOp.w (WOp.append 3 1 8 (SX.tmp 9) (SX.tmp 11))), [SOper.mk (some 6) none (SOp.p (POp.load1 (SX.tmp 5))), SOper.mk (some 8) none (SOp.p (POp.load1 (SX.tmp 7))), SOper.mk (some 14) none (SOp.p (POp.load1 (SX.tmp 13)))], [SOper.mk (some 15) none (SOp.p (POp.build [AV.int IntKind.i64 0, AV.str [], AV.nils, AV.nils, AV.int IntKind.i64 0] [(0, 1, SX.tmp 6), (1, 1, SX.tmp 8), (2, 1, SX.tmp 12), (4, 1, SX.tmp 14)]))]), (SOper.mk none none (SOp.w (WOp.store 5 (SX.tmp 3) (SX.tmp 15))), [], [])])
  (SCode.seq (SCode.seq (SCode.ops [SOper.mk (some 4) none (SOp.p (POp.move (SX.lit (AV.int IntKind.i64 0))))])
  (SCode.block 0 (SCode.loop c17_l0)))
  (SCode.seq (SCode.ops [SOper.mk (some 34) none (SOp.p (POp.loadn 5 (SX.tmp 3))), SOper.mk none none (SOp.w (WOp.store 5 (SX.tmp 2) (SX.tmp 34)))])
  SCode.ret)))), [ResV.celln 2 5]⟩
theorem code17 (own : FuncId → Option (List AV → Heap → R)) (mode : FuncId → Nat) : (slimPrg Try.prog own mode).code 17 = some c17 := by kernel_rfl
-- thunk/datum.Plain
def c18_l0 : SCode :=
  (SCode.seq (SCode.ops [SOper.mk (some 10) none (SOp.p (POp.bin BinOp.lss EqT.none (SX.tmp 9) (SX.tmp 8)))])
  (SCode.seq (SCode.cond (SX.tmp 10)
  SCode.skip
  (SCode.exit 0))
  (SCode.seq (SCode.block 1 (SCode.seq (SCode.ops [SOper.mk (some 11) none (SOp.p (POp.iaddr 5 (SX.tmp 7) (SX.tmp 9))), SOper.mk (some 12) none (SOp.p (POp.loadn 5 (SX.tmp 11))), SOper.mk (some 5) none (SOp.a (AOp.newc 30 [AV.int IntKind.i64 0, AV.str [], AV.nils, AV.nils, AV.int IntKind.i64 0])), SOper.mk none none (SOp.w (WOp.store 5 (SX.tmp 5) (SX.tmp 12)))])
  (SCode.ops [SOper.mk (some 13) none (SOp.p (POp.move (SX.tmp 3))), SOper.mk (some 14) none (SOp.p (POp.loadn 5 (SX.tmp 5))), SOper.mk (some 15) none (SOp.call (SX.lit (AV.func 18 [])) [SX.tmp 14]), SOper.mk (some 16) none (SOp.a (AOp.buildS [AV.int IntKind.i64 0, AV.str [], AV.nils, AV.nils, AV.int IntKind.i64 0] 1 [(0, 5, SX.tmp 15)])), SOper.mk (some 17) none (SOp.w (WOp.append 30 5 80 (SX.tmp 13) (SX.tmp 16))), SOper.mk (some 3) none (SOp.p (POp.move (SX.tmp 17)))])))
  (SCode.ops [SOper.mk (some 18) none (SOp.p (POp.bin BinOp.add EqT.none (SX.tmp 9) (SX.lit (AV.int IntKind.i64 1)))), SOper.mk (some 9) none (SOp.p (POp.move (SX.tmp 18)))]))))
def c18 : SFunc := ⟨24, (SCode.seq (SCode.ops [SOper.mk (some 1) none (SOp.a (AOp.box 30 (SX.tmp 0))), SOper.mk (some 2) none (SOp.a (AOp.newc 30 [AV.int IntKind.i64 0, AV.str [], AV.nils, AV.nils, AV.int IntKind.i64 0]))])
  (SCode.seq (SCode.ops [SOper.mk (some 3) none (SOp.p (POp.move (SX.lit AV.nils)))])
  (SCode.seq (SCode.seq (SCode.ops [SOper.mk (some 6) none (SOp.p (POp.faddr 3 (SX.tmp 1))), SOper.mk (some 7) none (SOp.p (POp.load1 (SX.tmp 6))), SOper.mk (some 8) none (SOp.p (POp.lenS (SX.tmp 7))), SOper.mk (some 9) none (SOp.p (POp.move (SX.lit (AV.int IntKind.i64 0))))])
  (SCode.block 0 (SCode.loop c18_l0)))
  (SCode.seq (SCode.ops [SOper.mk (some 19) none (SOp.p (POp.move (SX.tmp 3))), SOper.mk (some 20) none (SOp.call (SX.lit (AV.func 33 [])) [SX.tmp 19]), SOper.mk (some 21) none (SOp.p (POp.faddr 2 (SX.tmp 1))), SOper.mk none none (SOp.w (WOp.store 1 (SX.tmp 21) (SX.lit AV.nils))), SOper.mk (some 22) none (SOp.p (POp.faddr 3 (SX.tmp 1))), SOper.mk none none (SOp.w (WOp.store 1 (SX.tmp 22) (SX.tmp 20)))])
  (SCode.seq (SCode.ops [SOper.mk (some 23) none (SOp.p (POp.loadn 5 (SX.tmp 1))), SOper.mk none none (SOp.w (WOp.store 5 (SX.tmp 2) (SX.tmp 23)))])
  SCode.ret))))), [ResV.celln 2 5]⟩
theorem code18 (own : FuncId → Option (List AV → Heap → R)) (mode : FuncId → Nat) : (slimPrg Try.prog own mode).code 18 = some c18 := by kernel_rfl
-- thunk/thunkref2.Places
def c19_l0 : SCode :=
  (SCode.seq (SCode.seq (SCode.ops [SOper.mk (some 17) none (SOp.p (POp.move (SX.tmp 5))), SOper.mk (some 18) none (SOp.p (POp.faddr 3 (SX.tmp 2))), SOper.mk (some 19) none (SOp.p (POp.load1 (SX.tmp 18))), SOper.mk (some 20) none (SOp.p (POp.lenS (SX.tmp 19))), SOper.mk (some 21) none (SOp.p (POp.bin BinOp.lss EqT.none (SX.tmp 17) (SX.tmp 20)))])
  (SCode.cond (SX.tmp 21)
  SCode.skip
  (SCode.exit 0)))
  (SCode.seq (SCode.block 1 (SCode.seq (SCode.draw [SOper.mk (some 24) none (SOp.p (POp.faddr 3 (SX.tmp 2))), SOper.mk (some 25) none (SOp.p (POp.load1 (SX.tmp 24))), SOper.mk (some 26) none (SOp.p (POp.move (SX.tmp 5))), SOper.mk (some 27) none (SOp.p (POp.iaddr 5 (SX.tmp 25) (SX.tmp 26))), SOper.mk (some 28) none (SOp.p (POp.loadn 5 (SX.tmp 27))), SOper.mk (some 29) none (SOp.p (POp.faddr 3 (SX.tmp 3))), SOper.mk (some 30) none (SOp.p (POp.load1 (SX.tmp 29))), SOper.mk (some 31) none (SOp.p (POp.move (SX.tmp 5))), SOper.mk (some 32) none (SOp.p (POp.iaddr 5 (SX.tmp 30) (SX.tmp 31))), SOper.mk (some 33) none (SOp.p (POp.loadn 5 (SX.tmp 32)))] [(SOper.mk (some 34) none (SOp.call (SX.lit (AV.func 19 [])) [SX.tmp 28, SX.tmp 33]), [], [SOper.mk (some 35) none (SOp.p (POp.not (SX.tmp 34)))])])
  (SCode.cond (SX.tmp 35)
  (SCode.seq (SCode.ops [SOper.mk (some 4) none (SOp.p (POp.move (SX.lit (AV.bool false))))])
  SCode.ret)
  SCode.skip)))
  (SCode.ops [SOper.mk (some 22) none (SOp.p (POp.move (SX.tmp 5))), SOper.mk (some 23) none (SOp.p (POp.bin BinOp.add EqT.none (SX.tmp 22) (SX.lit (AV.int IntKind.i64 1)))), SOper.mk (some 5) none (SOp.p (POp.move (SX.tmp 23)))])))
def c19 : SFunc := ⟨36, (SCode.seq (SCode.ops [SOper.mk (some 2) none (SOp.a (AOp.box 30 (SX.tmp 0))), SOper.mk (some 3) none (SOp.a (AOp.box 30 (SX.tmp 1))), SOper.mk (some 4) none (SOp.p (POp.move (SX.lit (AV.bool false))))])
  (SCode.seq (SCode.seq (SCode.ops [SOper.mk (some 6) none (SOp.p (POp.loadn 5 (SX.tmp 2))), SOper.mk (some 7) none (SOp.p (POp.loadn 5 (SX.tmp 3))), SOper.mk (some 8) none (SOp.call (SX.lit (AV.func 25 [])) [SX.tmp 6, SX.tmp 7]), SOper.mk (some 9) none (SOp.p (POp.not (SX.tmp 8))), SOper.mk (some 10) none (SOp.p (POp.move (SX.tmp 9))), SOper.mk (some 11) (some (10, false)) (SOp.p (POp.faddr 4 (SX.tmp 2))), SOper.mk (some 12) (some (10, false)) (SOp.p (POp.load1 (SX.tmp 11))), SOper.mk (some 13) (some (10, false)) (SOp.p (POp.faddr 4 (SX.tmp 3))), SOper.mk (some 14) (some (10, false)) (SOp.p (POp.load1 (SX.tmp 13))), SOper.mk (some 15) (some (10, false)) (SOp.p (POp.bin BinOp.neq EqT.none (SX.tmp 12) (SX.tmp 14))), SOper.mk (some 16) none (SOp.p (POp.pick (SX.tmp 10) (SX.lit (AV.bool true)) (SX.tmp 15)))])
  (SCode.cond (SX.tmp 16)
  (SCode.seq (SCode.ops [SOper.mk (some 4) none (SOp.p (POp.move (SX.lit (AV.bool false))))])
  SCode.ret)
  SCode.skip))
  (SCode.seq (SCode.seq (SCode.ops [SOper.mk (some 5) none (SOp.p (POp.move (SX.lit (AV.int IntKind.i64 0))))])
  (SCode.block 0 (SCode.loop c19_l0)))
  (SCode.seq (SCode.ops [SOper.mk (some 4) none (SOp.p (POp.move (SX.lit (AV.bool true))))])
  SCode.ret)))), [ResV.tmp 4]⟩
theorem code19 (own : FuncId → Option (List AV → Heap → R)) (mode : FuncId → Nat) : (slimPrg Try.prog own mode).code 19 = some c19 := by kernel_rfl
-- thunk/thunklaw2.within
def c20 : SFunc := ⟨15, (SCode.seq (SCode.ops [SOper.mk (some 4) none (SOp.p (POp.move (SX.lit (AV.int IntKind.i64 0))))])
  (SCode.seq (SCode.ops [SOper.mk (some 6) none (SOp.p (POp.move (SX.tmp 0))), SOper.mk (some 7) none (SOp.p (POp.move (SX.tmp 1))), SOper.mk (some 8) none (SOp.p (POp.bin BinOp.rem EqT.none (SX.tmp 6) (SX.tmp 7))), SOper.mk (some 5) none (SOp.p (POp.move (SX.tmp 8)))])
  (SCode.seq (SCode.seq (SCode.ops [SOper.mk (some 9) none (SOp.p (POp.move (SX.tmp 5))), SOper.mk (some 10) none (SOp.p (POp.bin BinOp.lss EqT.none (SX.tmp 9) (SX.lit (AV.int IntKind.i64 0))))])
  (SCode.cond (SX.tmp 10)
  (SCode.ops [SOper.mk (some 11) none (SOp.p (POp.move (SX.tmp 5))), SOper.mk (some 12) none (SOp.p (POp.move (SX.tmp 1))), SOper.mk (some 13) none (SOp.p (POp.bin BinOp.add EqT.none (SX.tmp 11) (SX.tmp 12))), SOper.mk (some 5) none (SOp.p (POp.move (SX.tmp 13)))])
  SCode.skip))
  (SCode.seq (SCode.ops [SOper.mk (some 14) none (SOp.p (POp.move (SX.tmp 5))), SOper.mk (some 4) none (SOp.p (POp.move (SX.tmp 14)))])
  SCode.ret)))), [ResV.tmp 4]⟩
theorem code20 (own : FuncId → Option (List AV → Heap → R)) (mode : FuncId → Nat) : (slimPrg Try.prog own mode).code 20 = some c20 := by kernel_rfl
-- thunk/datum.Same
def c21 : SFunc := ⟨31, (SCode.seq (SCode.ops [SOper.mk (some 2) none (SOp.a (AOp.box 30 (SX.tmp 0))), SOper.mk (some 3) none (SOp.a (AOp.box 30 (SX.tmp 1))), SOper.mk (some 4) none (SOp.p (POp.move (SX.lit (AV.bool false))))])
  (SCode.seq (SCode.ops [SOper.mk (some 5) none (SOp.p (POp.faddr 0 (SX.tmp 2))), SOper.mk (some 6) none (SOp.p (POp.load1 (SX.tmp 5))), SOper.mk (some 7) none (SOp.p (POp.faddr 0 (SX.tmp 3))), SOper.mk (some 8) none (SOp.p (POp.load1 (SX.tmp 7))), SOper.mk (some 9) none (SOp.p (POp.bin BinOp.eql EqT.none (SX.tmp 6) (SX.tmp 8))), SOper.mk (some 10) none (SOp.p (POp.move (SX.tmp 9))), SOper.mk (some 11) (some (10, true)) (SOp.p (POp.faddr 1 (SX.tmp 2))), SOper.mk (some 12) (some (10, true)) (SOp.p (POp.load1 (SX.tmp 11))), SOper.mk (some 13) (some (10, true)) (SOp.p (POp.faddr 1 (SX.tmp 3))), SOper.mk (some 14) (some (10, true)) (SOp.p (POp.load1 (SX.tmp 13))), SOper.mk (some 15) (some (10, true)) (SOp.p (POp.bin BinOp.eql EqT.none (SX.tmp 12) (SX.tmp 14))), SOper.mk (some 16) none (SOp.p (POp.pick (SX.tmp 10) (SX.tmp 15) (SX.lit (AV.bool false)))), SOper.mk (some 17) none (SOp.p (POp.move (SX.tmp 16))), SOper.mk (some 18) (some (17, true)) (SOp.p (POp.faddr 2 (SX.tmp 2))), SOper.mk (some 19) (some (17, true)) (SOp.p (POp.load1 (SX.tmp 18))), SOper.mk (some 20) (some (17, true)) (SOp.p (POp.faddr 2 (SX.tmp 3))), SOper.mk (some 21) (some (17, true)) (SOp.p (POp.load1 (SX.tmp 20))), SOper.mk (some 22) (some (17, true)) (SOp.call (SX.lit (AV.func 34 [])) [SX.tmp 19, SX.tmp 21]), SOper.mk (some 23) none (SOp.p (POp.pick (SX.tmp 17) (SX.tmp 22) (SX.lit (AV.bool false)))), SOper.mk (some 24) none (SOp.p (POp.move (SX.tmp 23))), SOper.mk (some 25) (some (24, true)) (SOp.p (POp.faddr 3 (SX.tmp 2))), SOper.mk (some 26) (some (24, true)) (SOp.p (POp.load1 (SX.tmp 25))), SOper.mk (some 27) (some (24, true)) (SOp.p (POp.faddr 3 (SX.tmp 3))), SOper.mk (some 28) (some (24, true)) (SOp.p (POp.load1 (SX.tmp 27))), SOper.mk (some 29) (some (24, true)) (SOp.call (SX.lit (AV.func 35 [])) [SX.tmp 26, SX.tmp 28, SX.lit (AV.func 21 [])]), SOper.mk (some 30) none (SOp.p (POp.pick (SX.tmp 24) (SX.tmp 29) (SX.lit (AV.bool false)))), SOper.mk (some 4) none (SOp.p (POp.move (SX.tmp 30)))])
  SCode.ret)), [ResV.tmp 4]⟩
theorem code21 (own : FuncId → Option (List AV → Heap → R)) (mode : FuncId → Nat) : (slimPrg Try.prog own mode).code 21 = some c21 := by kernel_rfl
-- thunk/datum.Is
def c22 : SFunc := ⟨14, (SCode.seq (SCode.ops [SOper.mk (some 2) none (SOp.a (AOp.box 30 (SX.tmp 0))), SOper.mk (some 4) none (SOp.p (POp.move (SX.lit (AV.bool false))))])
  (SCode.seq (SCode.ops [SOper.mk (some 5) none (SOp.p (POp.faddr 0 (SX.tmp 2))), SOper.mk (some 6) none (SOp.p (POp.load1 (SX.tmp 5))), SOper.mk (some 7) none (SOp.p (POp.bin BinOp.eql EqT.none (SX.tmp 6) (SX.lit (AV.int IntKind.i64 3)))), SOper.mk (some 8) none (SOp.p (POp.move (SX.tmp 7))), SOper.mk (some 9) (some (8, true)) (SOp.p (POp.faddr 1 (SX.tmp 2))), SOper.mk (some 10) (some (8, true)) (SOp.p (POp.load1 (SX.tmp 9))), SOper.mk (some 11) (some (8, true)) (SOp.p (POp.move (SX.tmp 1))), SOper.mk (some 12) (some (8, true)) (SOp.p (POp.bin BinOp.eql EqT.none (SX.tmp 10) (SX.tmp 11))), SOper.mk (some 13) none (SOp.p (POp.pick (SX.tmp 8) (SX.tmp 12) (SX.lit (AV.bool false)))), SOper.mk (some 4) none (SOp.p (POp.move (SX.tmp 13)))])
  SCode.ret)), [ResV.tmp 4]⟩
theorem code22 (own : FuncId → Option (List AV → Heap → R)) (mode : FuncId → Nat) : (slimPrg Try.prog own mode).code 22 = some c22 := by kernel_rfl
-- thunk/thunkref2.Plain
def c23_l0 : SCode :=
  (SCode.seq (SCode.seq (SCode.ops [SOper.mk (some 12) none (SOp.p (POp.move (SX.tmp 4))), SOper.mk (some 13) none (SOp.p (POp.faddr 3 (SX.tmp 1))), SOper.mk (some 14) none (SOp.p (POp.load1 (SX.tmp 13))), SOper.mk (some 15) none (SOp.p (POp.lenS (SX.tmp 14))), SOper.mk (some 16) none (SOp.p (POp.bin BinOp.lss EqT.none (SX.tmp 12) (SX.tmp 15)))])
  (SCode.cond (SX.tmp 16)
  SCode.skip
  (SCode.exit 0)))
  (SCode.seq (SCode.block 1 (SCode.draw [SOper.mk (some 19) none (SOp.p (POp.faddr 3 (SX.tmp 3))), SOper.mk (some 20) none (SOp.p (POp.load1 (SX.tmp 19))), SOper.mk (some 21) none (SOp.p (POp.faddr 3 (SX.tmp 1))), SOper.mk (some 22) none (SOp.p (POp.load1 (SX.tmp 21))), SOper.mk (some 23) none (SOp.p (POp.move (SX.tmp 4))), SOper.mk (some 24) none (SOp.p (POp.iaddr 5 (SX.tmp 22) (SX.tmp 23))), SOper.mk (some 25) none (SOp.p (POp.loadn 5 (SX.tmp 24)))] [(SOper.mk (some 26) none (SOp.call (SX.lit (AV.func 23 [])) [SX.tmp 25]), [SOper.mk (some 20) none (SOp.p (POp.load1 (SX.tmp 19)))], [SOper.mk (some 27) none (SOp.a (AOp.buildS [AV.int IntKind.i64 0, AV.str [], AV.nils, AV.nils, AV.int IntKind.i64 0] 1 [(0, 5, SX.tmp 26)]))]), (SOper.mk (some 28) none (SOp.w (WOp.append 30 5 80 (SX.tmp 20) (SX.tmp 27))), [], [SOper.mk (some 29) none (SOp.p (POp.faddr 3 (SX.tmp 3)))]), (SOper.mk none none (SOp.w (WOp.store 1 (SX.tmp 29) (SX.tmp 28))), [], [])]))
  (SCode.ops [SOper.mk (some 17) none (SOp.p (POp.move (SX.tmp 4))), SOper.mk (some 18) none (SOp.p (POp.bin BinOp.add EqT.none (SX.tmp 17) (SX.lit (AV.int IntKind.i64 1)))), SOper.mk (some 4) none (SOp.p (POp.move (SX.tmp 18)))])))
def c23 : SFunc := ⟨31, (SCode.seq (SCode.ops [SOper.mk (some 1) none (SOp.a (AOp.box 30 (SX.tmp 0))), SOper.mk (some 2) none (SOp.a (AOp.newc 30 [AV.int IntKind.i64 0, AV.str [], AV.nils, AV.nils, AV.int IntKind.i64 0]))])
  (SCode.seq (SCode.ops [SOper.mk (some 5) none (SOp.p (POp.faddr 0 (SX.tmp 1))), SOper.mk (some 6) none (SOp.p (POp.load1 (SX.tmp 5))), SOper.mk (some 7) none (SOp.p (POp.faddr 1 (SX.tmp 1))), SOper.mk (some 8) none (SOp.p (POp.load1 (SX.tmp 7))), SOper.mk (some 9) none (SOp.p (POp.faddr 4 (SX.tmp 1))), SOper.mk (some 10) none (SOp.p (POp.load1 (SX.tmp 9))), SOper.mk (some 11) none (SOp.p (POp.build [AV.int IntKind.i64 0, AV.str [], AV.nils, AV.nils, AV.int IntKind.i64 0] [(0, 1, SX.tmp 6), (1, 1, SX.tmp 8), (4, 1, SX.tmp 10)])), SOper.mk (some 3) none (SOp.a (AOp.newc 30 [AV.int IntKind.i64 0, AV.str [], AV.nils, AV.nils, AV.int IntKind.i64 0])), SOper.mk none none (SOp.w (WOp.store 5 (SX.tmp 3) (SX.tmp 11)))])
  (SCode.seq (SCode.seq (SCode.ops [SOper.mk (some 4) none (SOp.p (POp.move (SX.lit (AV.int IntKind.i64 0))))])
  (SCode.block 0 (SCode.loop c23_l0)))
  (SCode.seq (SCode.ops [SOper.mk (some 30) none (SOp.p (POp.loadn 5 (SX.tmp 3))), SOper.mk none none (SOp.w (WOp.store 5 (SX.tmp 2) (SX.tmp 30)))])
  SCode.ret)))), [ResV.celln 2 5]⟩
theorem code23 (own : FuncId → Option (List AV → Heap → R)) (mode : FuncId → Nat) : (slimPrg Try.prog own mode).code 23 = some c23 := by kernel_rfl
-- thunk/thunkref2.Text
def c24_l0 : SCode :=
  (SCode.seq (SCode.seq (SCode.ops [SOper.mk (some 10) none (SOp.p (POp.move (SX.tmp 4))), SOper.mk (some 11) none (SOp.p (POp.faddr 3 (SX.tmp 1))), SOper.mk (some 12) none (SOp.p (POp.load1 (SX.tmp 11))), SOper.mk (some 13) none (SOp.p (POp.lenS (SX.tmp 12))), SOper.mk (some 14) none (SOp.p (POp.bin BinOp.lss EqT.none (SX.tmp 10) (SX.tmp 13)))])
  (SCode.cond (SX.tmp 14)
  SCode.skip
  (SCode.exit 0)))
  (SCode.seq (SCode.block 1 (SCode.seq (SCode.seq (SCode.ops [SOper.mk (some 17) none (SOp.p (POp.move (SX.tmp 4))), SOper.mk (some 18) none (SOp.p (POp.bin BinOp.gtr EqT.none (SX.tmp 17) (SX.lit (AV.int IntKind.i64 0))))])
  (SCode.cond (SX.tmp 18)
  (SCode.ops [SOper.mk (some 19) none (SOp.p (POp.move (SX.tmp 3))), SOper.mk (some 20) none (SOp.p (POp.bin BinOp.add EqT.none (SX.tmp 19) (SX.lit (AV.str [32])))), SOper.mk (some 3) none (SOp.p (POp.move (SX.tmp 20)))])
  SCode.skip))
  (SCode.ops [SOper.mk (some 21) none (SOp.p (POp.move (SX.tmp 3))), SOper.mk (some 22) none (SOp.p (POp.faddr 3 (SX.tmp 1))), SOper.mk (some 23) none (SOp.p (POp.load1 (SX.tmp 22))), SOper.mk (some 24) none (SOp.p (POp.move (SX.tmp 4))), SOper.mk (some 25) none (SOp.p (POp.iaddr 5 (SX.tmp 23) (SX.tmp 24))), SOper.mk (some 26) none (SOp.p (POp.loadn 5 (SX.tmp 25))), SOper.mk (some 27) none (SOp.call (SX.lit (AV.func 24 [])) [SX.tmp 26]), SOper.mk (some 28) none (SOp.p (POp.bin BinOp.add EqT.none (SX.tmp 21) (SX.tmp 27))), SOper.mk (some 3) none (SOp.p (POp.move (SX.tmp 28)))])))
  (SCode.ops [SOper.mk (some 15) none (SOp.p (POp.move (SX.tmp 4))), SOper.mk (some 16) none (SOp.p (POp.bin BinOp.add EqT.none (SX.tmp 15) (SX.lit (AV.int IntKind.i64 1)))), SOper.mk (some 4) none (SOp.p (POp.move (SX.tmp 16)))])))
def c24 : SFunc := ⟨31, (SCode.seq (SCode.ops [SOper.mk (some 1) none (SOp.a (AOp.box 30 (SX.tmp 0))), SOper.mk (some 2) none (SOp.p (POp.move (SX.lit (AV.str []))))])
  (SCode.seq (SCode.seq (SCode.ops [SOper.mk (some 5) none (SOp.p (POp.faddr 0 (SX.tmp 1))), SOper.mk (some 6) none (SOp.p (POp.load1 (SX.tmp 5))), SOper.mk (some 7) none (SOp.p (POp.bin BinOp.neq EqT.none (SX.tmp 6) (SX.lit (AV.int IntKind.i64 4))))])
  (SCode.cond (SX.tmp 7)
  (SCode.seq (SCode.ops [SOper.mk (some 8) none (SOp.p (POp.faddr 1 (SX.tmp 1))), SOper.mk (some 9) none (SOp.p (POp.load1 (SX.tmp 8))), SOper.mk (some 2) none (SOp.p (POp.move (SX.tmp 9)))])
  SCode.ret)
  SCode.skip))
  (SCode.seq (SCode.ops [SOper.mk (some 3) none (SOp.p (POp.move (SX.lit (AV.str [40]))))])
  (SCode.seq (SCode.seq (SCode.ops [SOper.mk (some 4) none (SOp.p (POp.move (SX.lit (AV.int IntKind.i64 0))))])
  (SCode.block 0 (SCode.loop c24_l0)))
  (SCode.seq (SCode.ops [SOper.mk (some 29) none (SOp.p (POp.move (SX.tmp 3))), SOper.mk (some 30) none (SOp.p (POp.bin BinOp.add EqT.none (SX.tmp 29) (SX.lit (AV.str [41])))), SOper.mk (some 2) none (SOp.p (POp.move (SX.tmp 30)))])
  SCode.ret))))), [ResV.tmp 2]⟩
theorem code24 (own : FuncId → Option (List AV → Heap → R)) (mode : FuncId → Nat) : (slimPrg Try.prog own mode).code 24 = some c24 := by kernel_rfl
-- thunk/thunkref2.Same
def c25_l0 : SCode :=
  (SCode.seq (SCode.seq (SCode.ops [SOper.mk (some 35) none (SOp.p (POp.move (SX.tmp 5))), SOper.mk (some 36) none (SOp.p (POp.faddr 3 (SX.tmp 2))), SOper.mk (some 37) none (SOp.p (POp.load1 (SX.tmp 36))), SOper.mk (some 38) none (SOp.p (POp.lenS (SX.tmp 37))), SOper.mk (some 39) none (SOp.p (POp.bin BinOp.lss EqT.none (SX.tmp 35) (SX.tmp 38)))])
  (SCode.cond (SX.tmp 39)
  SCode.skip
  (SCode.exit 0)))
  (SCode.seq (SCode.block 1 (SCode.seq (SCode.draw [SOper.mk (some 42) none (SOp.p (POp.faddr 3 (SX.tmp 2))), SOper.mk (some 43) none (SOp.p (POp.load1 (SX.tmp 42))), SOper.mk (some 44) none (SOp.p (POp.move (SX.tmp 5))), SOper.mk (some 45) none (SOp.p (POp.iaddr 5 (SX.tmp 43) (SX.tmp 44))), SOper.mk (some 46) none (SOp.p (POp.loadn 5 (SX.tmp 45))), SOper.mk (some 47) none (SOp.p (POp.faddr 3 (SX.tmp 3))), SOper.mk (some 48) none (SOp.p (POp.load1 (SX.tmp 47))), SOper.mk (some 49) none (SOp.p (POp.move (SX.tmp 5))), SOper.mk (some 50) none (SOp.p (POp.iaddr 5 (SX.tmp 48) (SX.tmp 49))), SOper.mk (some 51) none (SOp.p (POp.loadn 5 (SX.tmp 50)))] [(SOper.mk (some 52) none (SOp.call (SX.lit (AV.func 25 [])) [SX.tmp 46, SX.tmp 51]), [], [SOper.mk (some 53) none (SOp.p (POp.not (SX.tmp 52)))])])
  (SCode.cond (SX.tmp 53)
  (SCode.seq (SCode.ops [SOper.mk (some 4) none (SOp.p (POp.move (SX.lit (AV.bool false))))])
  SCode.ret)
  SCode.skip)))
  (SCode.ops [SOper.mk (some 40) none (SOp.p (POp.move (SX.tmp 5))), SOper.mk (some 41) none (SOp.p (POp.bin BinOp.add EqT.none (SX.tmp 40) (SX.lit (AV.int IntKind.i64 1)))), SOper.mk (some 5) none (SOp.p (POp.move (SX.tmp 41)))])))
def c25 : SFunc := ⟨54, (SCode.seq (SCode.ops [SOper.mk (some 2) none (SOp.a (AOp.box 30 (SX.tmp 0))), SOper.mk (some 3) none (SOp.a (AOp.box 30 (SX.tmp 1))), SOper.mk (some 4) none (SOp.p (POp.move (SX.lit (AV.bool false))))])
  (SCode.seq (SCode.seq (SCode.ops [SOper.mk (some 6) none (SOp.p (POp.faddr 0 (SX.tmp 2))), SOper.mk (some 7) none (SOp.p (POp.load1 (SX.tmp 6))), SOper.mk (some 8) none (SOp.p (POp.faddr 0 (SX.tmp 3))), SOper.mk (some 9) none (SOp.p (POp.load1 (SX.tmp 8))), SOper.mk (some 10) none (SOp.p (POp.bin BinOp.neq EqT.none (SX.tmp 7) (SX.tmp 9))), SOper.mk (some 11) none (SOp.p (POp.move (SX.tmp 10))), SOper.mk (some 12) (some (11, false)) (SOp.p (POp.faddr 1 (SX.tmp 2))), SOper.mk (some 13) (some (11, false)) (SOp.p (POp.load1 (SX.tmp 12))), SOper.mk (some 14) (some (11, false)) (SOp.p (POp.faddr 1 (SX.tmp 3))), SOper.mk (some 15) (some (11, false)) (SOp.p (POp.load1 (SX.tmp 14))), SOper.mk (some 16) (some (11, false)) (SOp.p (POp.bin BinOp.neq EqT.none (SX.tmp 13) (SX.tmp 15))), SOper.mk (some 17) none (SOp.p (POp.pick (SX.tmp 11) (SX.lit (AV.bool true)) (SX.tmp 16))), SOper.mk (some 18) none (SOp.p (POp.move (SX.tmp 17))), SOper.mk (some 19) (some (18, false)) (SOp.p (POp.faddr 2 (SX.tmp 2))), SOper.mk (some 20) (some (18, false)) (SOp.p (POp.load1 (SX.tmp 19))), SOper.mk (some 21) (some (18, false)) (SOp.p (POp.faddr 2 (SX.tmp 3))), SOper.mk (some 22) (some (18, false)) (SOp.p (POp.load1 (SX.tmp 21))), SOper.mk (some 23) (some (18, false)) (SOp.call (SX.lit (AV.func 36 [])) [SX.tmp 20, SX.tmp 22]), SOper.mk (some 24) (some (18, false)) (SOp.p (POp.not (SX.tmp 23))), SOper.mk (some 25) none (SOp.p (POp.pick (SX.tmp 18) (SX.lit (AV.bool true)) (SX.tmp 24))), SOper.mk (some 26) none (SOp.p (POp.move (SX.tmp 25))), SOper.mk (some 27) (some (26, false)) (SOp.p (POp.faddr 3 (SX.tmp 2))), SOper.mk (some 28) (some (26, false)) (SOp.p (POp.load1 (SX.tmp 27))), SOper.mk (some 29) (some (26, false)) (SOp.p (POp.lenS (SX.tmp 28))), SOper.mk (some 30) (some (26, false)) (SOp.p (POp.faddr 3 (SX.tmp 3))), SOper.mk (some 31) (some (26, false)) (SOp.p (POp.load1 (SX.tmp 30))), SOper.mk (some 32) (some (26, false)) (SOp.p (POp.lenS (SX.tmp 31))), SOper.mk (some 33) (some (26, false)) (SOp.p (POp.bin BinOp.neq EqT.none (SX.tmp 29) (SX.tmp 32))), SOper.mk (some 34) none (SOp.p (POp.pick (SX.tmp 26) (SX.lit (AV.bool true)) (SX.tmp 33)))])
  (SCode.cond (SX.tmp 34)
  (SCode.seq (SCode.ops [SOper.mk (some 4) none (SOp.p (POp.move (SX.lit (AV.bool false))))])
  SCode.ret)
  SCode.skip))
  (SCode.seq (SCode.seq (SCode.ops [SOper.mk (some 5) none (SOp.p (POp.move (SX.lit (AV.int IntKind.i64 0))))])
  (SCode.block 0 (SCode.loop c25_l0)))
  (SCode.seq (SCode.ops [SOper.mk (some 4) none (SOp.p (POp.move (SX.lit (AV.bool true))))])
  SCode.ret)))), [ResV.tmp 4]⟩
theorem code25 (own : FuncId → Option (List AV → Heap → R)) (mode : FuncId → Nat) : (slimPrg Try.prog own mode).code 25 = some c25 := by kernel_rfl
-- thunk/thunkref2.Size
def c26_l0 : SCode :=
  (SCode.seq (SCode.seq (SCode.ops [SOper.mk (some 5) none (SOp.p (POp.move (SX.tmp 4))), SOper.mk (some 6) none (SOp.p (POp.faddr 3 (SX.tmp 1))), SOper.mk (some 7) none (SOp.p (POp.load1 (SX.tmp 6))), SOper.mk (some 8) none (SOp.p (POp.lenS (SX.tmp 7))), SOper.mk (some 9) none (SOp.p (POp.bin BinOp.lss EqT.none (SX.tmp 5) (SX.tmp 8)))])
  (SCode.cond (SX.tmp 9)
  SCode.skip
  (SCode.exit 0)))
  (SCode.seq (SCode.block 1 (SCode.ops [SOper.mk (some 12) none (SOp.p (POp.move (SX.tmp 3))), SOper.mk (some 13) none (SOp.p (POp.faddr 3 (SX.tmp 1))), SOper.mk (some 14) none (SOp.p (POp.load1 (SX.tmp 13))), SOper.mk (some 15) none (SOp.p (POp.move (SX.tmp 4))), SOper.mk (some 16) none (SOp.p (POp.iaddr 5 (SX.tmp 14) (SX.tmp 15))), SOper.mk (some 17) none (SOp.p (POp.loadn 5 (SX.tmp 16))), SOper.mk (some 18) none (SOp.call (SX.lit (AV.func 26 [])) [SX.tmp 17]), SOper.mk (some 19) none (SOp.p (POp.bin BinOp.add EqT.none (SX.tmp 12) (SX.tmp 18))), SOper.mk (some 3) none (SOp.p (POp.move (SX.tmp 19)))]))
  (SCode.ops [SOper.mk (some 10) none (SOp.p (POp.move (SX.tmp 4))), SOper.mk (some 11) none (SOp.p (POp.bin BinOp.add EqT.none (SX.tmp 10) (SX.lit (AV.int IntKind.i64 1)))), SOper.mk (some 4) none (SOp.p (POp.move (SX.tmp 11)))])))
def c26 : SFunc := ⟨21, (SCode.seq (SCode.ops [SOper.mk (some 1) none (SOp.a (AOp.box 30 (SX.tmp 0))), SOper.mk (some 2) none (SOp.p (POp.move (SX.lit (AV.int IntKind.i64 0))))])
  (SCode.seq (SCode.ops [SOper.mk (some 3) none (SOp.p (POp.move (SX.lit (AV.int IntKind.i64 1))))])
  (SCode.seq (SCode.seq (SCode.ops [SOper.mk (some 4) none (SOp.p (POp.move (SX.lit (AV.int IntKind.i64 0))))])
  (SCode.block 0 (SCode.loop c26_l0)))
  (SCode.seq (SCode.ops [SOper.mk (some 20) none (SOp.p (POp.move (SX.tmp 3))), SOper.mk (some 2) none (SOp.p (POp.move (SX.tmp 20)))])
  SCode.ret)))), [ResV.tmp 2]⟩
theorem code26 (own : FuncId → Option (List AV → Heap → R)) (mode : FuncId → Nat) : (slimPrg Try.prog own mode).code 26 = some c26 := by kernel_rfl
-- thunk/thunkref2.Is
def c27 : SFunc := ⟨14, (SCode.seq (SCode.ops [SOper.mk (some 2) none (SOp.a (AOp.box 30 (SX.tmp 0))), SOper.mk (some 4) none (SOp.p (POp.move (SX.lit (AV.bool false))))])
  (SCode.seq (SCode.ops [SOper.mk (some 5) none (SOp.p (POp.faddr 0 (SX.tmp 2))), SOper.mk (some 6) none (SOp.p (POp.load1 (SX.tmp 5))), SOper.mk (some 7) none (SOp.p (POp.bin BinOp.eql EqT.none (SX.tmp 6) (SX.lit (AV.int IntKind.i64 3)))), SOper.mk (some 8) none (SOp.p (POp.move (SX.tmp 7))), SOper.mk (some 9) (some (8, true)) (SOp.p (POp.faddr 1 (SX.tmp 2))), SOper.mk (some 10) (some (8, true)) (SOp.p (POp.load1 (SX.tmp 9))), SOper.mk (some 11) (some (8, true)) (SOp.p (POp.move (SX.tmp 1))), SOper.mk (some 12) (some (8, true)) (SOp.p (POp.bin BinOp.eql EqT.none (SX.tmp 10) (SX.tmp 11))), SOper.mk (some 13) none (SOp.p (POp.pick (SX.tmp 8) (SX.tmp 12) (SX.lit (AV.bool false)))), SOper.mk (some 4) none (SOp.p (POp.move (SX.tmp 13)))])
  SCode.ret)), [ResV.tmp 4]⟩
theorem code27 (own : FuncId → Option (List AV → Heap → R)) (mode : FuncId → Nat) : (slimPrg Try.prog own mode).code 27 = some c27 := by kernel_rfl
-- thunk/thunklaw2.bare
def c28_l0 : SCode :=
  (SCode.seq (SCode.seq (SCode.ops [SOper.mk (some 8) none (SOp.p (POp.move (SX.tmp 3))), SOper.mk (some 9) none (SOp.p (POp.faddr 3 (SX.tmp 1))), SOper.mk (some 10) none (SOp.p (POp.load1 (SX.tmp 9))), SOper.mk (some 11) none (SOp.p (POp.lenS (SX.tmp 10))), SOper.mk (some 12) none (SOp.p (POp.bin BinOp.lss EqT.none (SX.tmp 8) (SX.tmp 11)))])
  (SCode.cond (SX.tmp 12)
  SCode.skip
  (SCode.exit 0)))
  (SCode.seq (SCode.block 1 (SCode.seq (SCode.ops [SOper.mk (some 15) none (SOp.p (POp.faddr 3 (SX.tmp 1))), SOper.mk (some 16) none (SOp.p (POp.load1 (SX.tmp 15))), SOper.mk (some 17) none (SOp.p (POp.move (SX.tmp 3))), SOper.mk (some 18) none (SOp.p (POp.iaddr 5 (SX.tmp 16) (SX.tmp 17))), SOper.mk (some 19) none (SOp.p (POp.loadn 5 (SX.tmp 18))), SOper.mk (some 20) none (SOp.call (SX.lit (AV.func 28 [])) [SX.tmp 19]), SOper.mk (some 21) none (SOp.p (POp.not (SX.tmp 20)))])
  (SCode.cond (SX.tmp 21)
  (SCode.seq (SCode.ops [SOper.mk (some 2) none (SOp.p (POp.move (SX.lit (AV.bool false))))])
  SCode.ret)
  SCode.skip)))
  (SCode.ops [SOper.mk (some 13) none (SOp.p (POp.move (SX.tmp 3))), SOper.mk (some 14) none (SOp.p (POp.bin BinOp.add EqT.none (SX.tmp 13) (SX.lit (AV.int IntKind.i64 1)))), SOper.mk (some 3) none (SOp.p (POp.move (SX.tmp 14)))])))
def c28 : SFunc := ⟨22, (SCode.seq (SCode.ops [SOper.mk (some 1) none (SOp.a (AOp.box 30 (SX.tmp 0))), SOper.mk (some 2) none (SOp.p (POp.move (SX.lit (AV.bool false))))])
  (SCode.seq (SCode.seq (SCode.ops [SOper.mk (some 4) none (SOp.p (POp.faddr 2 (SX.tmp 1))), SOper.mk (some 5) none (SOp.p (POp.load1 (SX.tmp 4))), SOper.mk (some 6) none (SOp.p (POp.lenS (SX.tmp 5))), SOper.mk (some 7) none (SOp.p (POp.bin BinOp.gtr EqT.none (SX.tmp 6) (SX.lit (AV.int IntKind.i64 0))))])
  (SCode.cond (SX.tmp 7)
  (SCode.seq (SCode.ops [SOper.mk (some 2) none (SOp.p (POp.move (SX.lit (AV.bool false))))])
  SCode.ret)
  SCode.skip))
  (SCode.seq (SCode.seq (SCode.ops [SOper.mk (some 3) none (SOp.p (POp.move (SX.lit (AV.int IntKind.i64 0))))])
  (SCode.block 0 (SCode.loop c28_l0)))
  (SCode.seq (SCode.ops [SOper.mk (some 2) none (SOp.p (POp.move (SX.lit (AV.bool true))))])
  SCode.ret)))), [ResV.tmp 2]⟩
theorem code28 (own : FuncId → Option (List AV → Heap → R)) (mode : FuncId → Nat) : (slimPrg Try.prog own mode).code 28 = some c28 := by kernel_rfl
-- thunk/thunklaw2.size
def c29_l0 : SCode :=
  (SCode.seq (SCode.seq (SCode.ops [SOper.mk (some 9) none (SOp.p (POp.move (SX.tmp 6))), SOper.mk (some 10) none (SOp.p (POp.move (SX.tmp 0))), SOper.mk (some 11) none (SOp.p (POp.lenS (SX.tmp 10))), SOper.mk (some 12) none (SOp.p (POp.bin BinOp.lss EqT.none (SX.tmp 9) (SX.tmp 11))), SOper.mk (some 13) none (SOp.p (POp.move (SX.tmp 12))), SOper.mk (some 14) (some (13, true)) (SOp.p (POp.move (SX.tmp 5))), SOper.mk (some 15) (some (13, true)) (SOp.p (POp.bin BinOp.leq EqT.none (SX.tmp 14) (SX.lit (AV.int IntKind.i64 60)))), SOper.mk (some 16) none (SOp.p (POp.pick (SX.tmp 13) (SX.tmp 15) (SX.lit (AV.bool false))))])
  (SCode.cond (SX.tmp 16)
  SCode.skip
  (SCode.exit 0)))
  (SCode.seq (SCode.block 1 (SCode.ops [SOper.mk (some 19) none (SOp.p (POp.move (SX.tmp 5))), SOper.mk (some 20) none (SOp.p (POp.bin BinOp.add EqT.none (SX.tmp 19) (SX.lit (AV.int IntKind.i64 1)))), SOper.mk (some 21) none (SOp.p (POp.move (SX.tmp 0))), SOper.mk (some 22) none (SOp.p (POp.move (SX.tmp 6))), SOper.mk (some 23) none (SOp.p (POp.iaddr 3 (SX.tmp 21) (SX.tmp 22))), SOper.mk (some 24) none (SOp.p (POp.faddr 2 (SX.tmp 23))), SOper.mk (some 25) none (SOp.p (POp.load1 (SX.tmp 24))), SOper.mk (some 26) none (SOp.p (POp.move (SX.tmp 1))), SOper.mk (some 27) none (SOp.p (POp.bin BinOp.add EqT.none (SX.tmp 26) (SX.lit (AV.int IntKind.i64 1)))), SOper.mk (some 28) none (SOp.call (SX.lit (AV.func 29 [])) [SX.tmp 25, SX.tmp 27]), SOper.mk (some 29) none (SOp.p (POp.bin BinOp.add EqT.none (SX.tmp 20) (SX.tmp 28))), SOper.mk (some 5) none (SOp.p (POp.move (SX.tmp 29)))]))
  (SCode.ops [SOper.mk (some 17) none (SOp.p (POp.move (SX.tmp 6))), SOper.mk (some 18) none (SOp.p (POp.bin BinOp.add EqT.none (SX.tmp 17) (SX.lit (AV.int IntKind.i64 1)))), SOper.mk (some 6) none (SOp.p (POp.move (SX.tmp 18)))])))
def c29 : SFunc := ⟨31, (SCode.seq (SCode.ops [SOper.mk (some 4) none (SOp.p (POp.move (SX.lit (AV.int IntKind.i64 0))))])
  (SCode.seq (SCode.seq (SCode.ops [SOper.mk (some 7) none (SOp.p (POp.move (SX.tmp 1))), SOper.mk (some 8) none (SOp.p (POp.bin BinOp.gtr EqT.none (SX.tmp 7) (SX.lit (AV.int IntKind.i64 20))))])
  (SCode.cond (SX.tmp 8)
  (SCode.seq (SCode.ops [SOper.mk (some 4) none (SOp.p (POp.move (SX.lit (AV.int IntKind.i64 1000))))])
  SCode.ret)
  SCode.skip))
  (SCode.seq (SCode.ops [SOper.mk (some 5) none (SOp.p (POp.move (SX.lit (AV.int IntKind.i64 0))))])
  (SCode.seq (SCode.seq (SCode.ops [SOper.mk (some 6) none (SOp.p (POp.move (SX.lit (AV.int IntKind.i64 0))))])
  (SCode.block 0 (SCode.loop c29_l0)))
  (SCode.seq (SCode.ops [SOper.mk (some 30) none (SOp.p (POp.move (SX.tmp 5))), SOper.mk (some 4) none (SOp.p (POp.move (SX.tmp 30)))])
  SCode.ret))))), [ResV.tmp 4]⟩
theorem code29 (own : FuncId → Option (List AV → Heap → R)) (mode : FuncId → Nat) : (slimPrg Try.prog own mode).code 29 = some c29 := by kernel_rfl
-- (thunk/thunklaw2.Raw).Make
def c30_l0 : SCode :=
  (SCode.seq (SCode.seq (SCode.ops [SOper.mk (some 37) none (SOp.p (POp.move (SX.tmp 4))), SOper.mk (some 38) none (SOp.p (POp.faddr 2 (SX.tmp 1))), SOper.mk (some 39) none (SOp.p (POp.load1 (SX.tmp 38))), SOper.mk (some 40) none (SOp.p (POp.lenS (SX.tmp 39))), SOper.mk (some 41) none (SOp.p (POp.bin BinOp.lss EqT.none (SX.tmp 37) (SX.tmp 40)))])
  (SCode.cond (SX.tmp 41)
  SCode.skip
  (SCode.exit 1)))
  (SCode.seq (SCode.block 2 (SCode.draw [SOper.mk (some 44) none (SOp.p (POp.faddr 3 (SX.tmp 3))), SOper.mk (some 45) none (SOp.p (POp.load1 (SX.tmp 44))), SOper.mk (some 46) none (SOp.p (POp.faddr 2 (SX.tmp 1))), SOper.mk (some 47) none (SOp.p (POp.load1 (SX.tmp 46))), SOper.mk (some 48) none (SOp.p (POp.move (SX.tmp 4))), SOper.mk (some 49) none (SOp.p (POp.iaddr 3 (SX.tmp 47) (SX.tmp 48))), SOper.mk (some 50) none (SOp.p (POp.loadn 3 (SX.tmp 49)))] [(SOper.mk (some 51) none (SOp.call (SX.lit (AV.func 30 [])) [SX.tmp 50]), [SOper.mk (some 45) none (SOp.p (POp.load1 (SX.tmp 44)))], [SOper.mk (some 52) none (SOp.a (AOp.buildS [AV.int IntKind.i64 0, AV.str [], AV.nils, AV.nils, AV.int IntKind.i64 0] 1 [(0, 5, SX.tmp 51)]))]), (SOper.mk (some 53) none (SOp.w (WOp.append 30 5 80 (SX.tmp 45) (SX.tmp 52))), [], [SOper.mk (some 54) none (SOp.p (POp.faddr 3 (SX.tmp 3)))]), (SOper.mk none none (SOp.w (WOp.store 1 (SX.tmp 54) (SX.tmp 53))), [], [])]))
  (SCode.ops [SOper.mk (some 42) none (SOp.p (POp.move (SX.tmp 4))), SOper.mk (some 43) none (SOp.p (POp.bin BinOp.add EqT.none (SX.tmp 42) (SX.lit (AV.int IntKind.i64 1)))), SOper.mk (some 4) none (SOp.p (POp.move (SX.tmp 43)))])))
def c30 : SFunc := ⟨56, (SCode.seq (SCode.ops [SOper.mk (some 1) none (SOp.a (AOp.box 47 (SX.tmp 0))), SOper.mk (some 2) none (SOp.a (AOp.newc 30 [AV.int IntKind.i64 0, AV.str [], AV.nils, AV.nils, AV.int IntKind.i64 0]))])
  (SCode.seq (SCode.seq (SCode.ops [SOper.mk (some 5) none (SOp.p (POp.faddr 0 (SX.tmp 1))), SOper.mk (some 6) none (SOp.p (POp.load1 (SX.tmp 5))), SOper.mk (some 7) none (SOp.call (SX.lit (AV.func 20 [])) [SX.tmp 6, SX.lit (AV.int IntKind.i64 7)])])
  (SCode.block 0 (SCode.seq (SCode.ops [SOper.mk (some 9) none (SOp.p (POp.bin BinOp.eql EqT.none (SX.tmp 7) (SX.lit (AV.int IntKind.i64 0)))), SOper.mk (some 8) none (SOp.p (POp.move (SX.tmp 9)))])
  (SCode.cond (SX.tmp 8)
  (SCode.seq (SCode.ops [SOper.mk (some 10) none (SOp.a (AOp.buildS [AV.str [], AV.str [], AV.str [], AV.str [], AV.str []] 5 [(0, 1, SX.lit (AV.str [48])), (1, 1, SX.lit (AV.str [49])), (2, 1, SX.lit (AV.str [45, 55])), (3, 1, SX.lit (AV.str [52, 50])), (4, 1, SX.lit (AV.str [49, 50, 51, 52, 53, 54, 55, 56, 57, 48, 49, 50, 51, 52, 53, 54, 55, 56, 57, 48, 49, 50, 51, 52, 53, 54, 55, 56, 57, 48]))])), SOper.mk (some 11) none (SOp.p (POp.faddr 1 (SX.tmp 1))), SOper.mk (some 12) none (SOp.p (POp.load1 (SX.tmp 11))), SOper.mk (some 13) none (SOp.call (SX.lit (AV.func 20 [])) [SX.tmp 12, SX.lit (AV.int IntKind.i64 5)]), SOper.mk (some 14) none (SOp.p (POp.iaddr 1 (SX.tmp 10) (SX.tmp 13))), SOper.mk (some 15) none (SOp.p (POp.load1 (SX.tmp 14))), SOper.mk (some 16) none (SOp.p (POp.build [AV.int IntKind.i64 0, AV.str [], AV.nils, AV.nils, AV.int IntKind.i64 0] [(0, 1, SX.lit (AV.int IntKind.i64 1)), (1, 1, SX.tmp 15)])), SOper.mk none none (SOp.w (WOp.store 5 (SX.tmp 2) (SX.tmp 16)))])
  SCode.ret)
  (SCode.seq (SCode.ops [SOper.mk (some 18) none (SOp.p (POp.bin BinOp.eql EqT.none (SX.tmp 7) (SX.lit (AV.int IntKind.i64 1)))), SOper.mk (some 17) none (SOp.p (POp.move (SX.tmp 18)))])
  (SCode.cond (SX.tmp 17)
  (SCode.seq (SCode.ops [SOper.mk (some 19) none (SOp.a (AOp.buildS [AV.str [], AV.str []] 2 [(0, 1, SX.lit (AV.str [35, 116])), (1, 1, SX.lit (AV.str [35, 102]))])), SOper.mk (some 20) none (SOp.p (POp.faddr 1 (SX.tmp 1))), SOper.mk (some 21) none (SOp.p (POp.load1 (SX.tmp 20))), SOper.mk (some 22) none (SOp.call (SX.lit (AV.func 20 [])) [SX.tmp 21, SX.lit (AV.int IntKind.i64 2)]), SOper.mk (some 23) none (SOp.p (POp.iaddr 1 (SX.tmp 19) (SX.tmp 22))), SOper.mk (some 24) none (SOp.p (POp.load1 (SX.tmp 23))), SOper.mk (some 25) none (SOp.p (POp.build [AV.int IntKind.i64 0, AV.str [], AV.nils, AV.nils, AV.int IntKind.i64 0] [(0, 1, SX.lit (AV.int IntKind.i64 2)), (1, 1, SX.tmp 24)])), SOper.mk none none (SOp.w (WOp.store 5 (SX.tmp 2) (SX.tmp 25)))])
  SCode.ret)
  (SCode.seq (SCode.seq (SCode.ops [SOper.mk (some 27) none (SOp.p (POp.bin BinOp.eql EqT.none (SX.tmp 7) (SX.lit (AV.int IntKind.i64 2)))), SOper.mk (some 26) none (SOp.p (POp.move (SX.tmp 27)))])
  (SCode.cond (SX.tmp 26)
  SCode.skip
  (SCode.ops [SOper.mk (some 28) none (SOp.p (POp.bin BinOp.eql EqT.none (SX.tmp 7) (SX.lit (AV.int IntKind.i64 3)))), SOper.mk (some 26) none (SOp.p (POp.move (SX.tmp 28)))])))
  (SCode.cond (SX.tmp 26)
  (SCode.seq (SCode.ops [SOper.mk (some 29) none (SOp.a (AOp.buildS [AV.str [], AV.str [], AV.str [], AV.str [], AV.str [], AV.str [], AV.str [], AV.str [], AV.str [], AV.str [], AV.str []] 11 [(0, 1, SX.lit (AV.str [97])), (1, 1, SX.lit (AV.str [98])), (2, 1, SX.lit (AV.str [120])), (3, 1, SX.lit (AV.str [102])), (4, 1, SX.lit (AV.str [43])), (5, 1, SX.lit (AV.str [99, 97, 114])), (6, 1, SX.lit (AV.str [46, 46, 46])), (7, 1, SX.lit (AV.str [95])), (8, 1, SX.lit (AV.str [108, 101, 116])), (9, 1, SX.lit (AV.str [113, 117, 111, 116, 101])), (10, 1, SX.lit (AV.str [97, 45, 62, 98]))])), SOper.mk (some 30) none (SOp.p (POp.faddr 1 (SX.tmp 1))), SOper.mk (some 31) none (SOp.p (POp.load1 (SX.tmp 30))), SOper.mk (some 32) none (SOp.call (SX.lit (AV.func 20 [])) [SX.tmp 31, SX.lit (AV.int IntKind.i64 11)]), SOper.mk (some 33) none (SOp.p (POp.iaddr 1 (SX.tmp 29) (SX.tmp 32))), SOper.mk (some 34) none (SOp.p (POp.load1 (SX.tmp 33))), SOper.mk (some 35) none (SOp.p (POp.build [AV.int IntKind.i64 0, AV.str [], AV.nils, AV.nils, AV.int IntKind.i64 0] [(0, 1, SX.lit (AV.int IntKind.i64 3)), (1, 1, SX.tmp 34)])), SOper.mk none none (SOp.w (WOp.store 5 (SX.tmp 2) (SX.tmp 35)))])
  SCode.ret)
  SCode.skip))))))))
  (SCode.seq (SCode.ops [SOper.mk (some 36) none (SOp.p (POp.build [AV.int IntKind.i64 0, AV.str [], AV.nils, AV.nils, AV.int IntKind.i64 0] [(0, 1, SX.lit (AV.int IntKind.i64 4))])), SOper.mk (some 3) none (SOp.a (AOp.newc 30 [AV.int IntKind.i64 0, AV.str [], AV.nils, AV.nils, AV.int IntKind.i64 0])), SOper.mk none none (SOp.w (WOp.store 5 (SX.tmp 3) (SX.tmp 36)))])
  (SCode.seq (SCode.seq (SCode.ops [SOper.mk (some 4) none (SOp.p (POp.move (SX.lit (AV.int IntKind.i64 0))))])
  (SCode.block 1 (SCode.loop c30_l0)))
  (SCode.seq (SCode.ops [SOper.mk (some 55) none (SOp.p (POp.loadn 5 (SX.tmp 3))), SOper.mk none none (SOp.w (WOp.store 5 (SX.tmp 2) (SX.tmp 55)))])
  SCode.ret))))), [ResV.celln 2 5]⟩
theorem code30 (own : FuncId → Option (List AV → Heap → R)) (mode : FuncId → Nat) : (slimPrg Try.prog own mode).code 30 = some c30 := by kernel_rfl
-- (*thunk/datum.pen).write
def c31_l0 : SCode :=
  (SCode.seq (SCode.ops [SOper.mk (some 23) none (SOp.p (POp.bin BinOp.lss EqT.none (SX.tmp 22) (SX.tmp 21)))])
  (SCode.seq (SCode.cond (SX.tmp 23)
  SCode.skip
  (SCode.exit 0))
  (SCode.seq (SCode.block 1 (SCode.seq (SCode.ops [SOper.mk (some 24) none (SOp.p (POp.move (SX.tmp 22))), SOper.mk (some 25) none (SOp.p (POp.iaddr 5 (SX.tmp 20) (SX.tmp 22))), SOper.mk (some 26) none (SOp.p (POp.loadn 5 (SX.tmp 25))), SOper.mk (some 5) none (SOp.a (AOp.newc 30 [AV.int IntKind.i64 0, AV.str [], AV.nils, AV.nils, AV.int IntKind.i64 0])), SOper.mk (some 4) none (SOp.p (POp.move (SX.tmp 24))), SOper.mk none none (SOp.w (WOp.store 5 (SX.tmp 5) (SX.tmp 26)))])
  (SCode.seq (SCode.seq (SCode.ops [SOper.mk (some 27) none (SOp.p (POp.move (SX.tmp 4))), SOper.mk (some 28) none (SOp.p (POp.bin BinOp.gtr EqT.none (SX.tmp 27) (SX.lit (AV.int IntKind.i64 0))))])
  (SCode.cond (SX.tmp 28)
  (SCode.ops [SOper.mk (some 29) none (SOp.p (POp.move (SX.tmp 0))), SOper.mk (some 30) none (SOp.p (POp.nilchk (SX.tmp 29))), SOper.mk (some 31) none (SOp.p (POp.faddr 0 (SX.tmp 30))), SOper.mk (some 32) none (SOp.call (SX.lit (AV.func 37 [])) [SX.tmp 31, SX.lit (AV.str [32])])])
  SCode.skip))
  (SCode.ops [SOper.mk (some 33) none (SOp.p (POp.move (SX.tmp 0))), SOper.mk (some 34) none (SOp.p (POp.loadn 5 (SX.tmp 5))), SOper.mk (some 35) none (SOp.call (SX.lit (AV.func 31 [])) [SX.tmp 33, SX.tmp 34])]))))
  (SCode.ops [SOper.mk (some 36) none (SOp.p (POp.bin BinOp.add EqT.none (SX.tmp 22) (SX.lit (AV.int IntKind.i64 1)))), SOper.mk (some 22) none (SOp.p (POp.move (SX.tmp 36)))]))))
def c31 : SFunc := ⟨41, (SCode.seq (SCode.ops [SOper.mk (some 3) none (SOp.a (AOp.box 30 (SX.tmp 1)))])
  (SCode.seq (SCode.seq (SCode.ops [SOper.mk (some 6) none (SOp.p (POp.faddr 0 (SX.tmp 3))), SOper.mk (some 7) none (SOp.p (POp.load1 (SX.tmp 6))), SOper.mk (some 8) none (SOp.p (POp.bin BinOp.neq EqT.none (SX.tmp 7) (SX.lit (AV.int IntKind.i64 4))))])
  (SCode.cond (SX.tmp 8)
  (SCode.seq (SCode.draw [SOper.mk (some 9) none (SOp.p (POp.move (SX.tmp 0))), SOper.mk (some 10) none (SOp.p (POp.nilchk (SX.tmp 9))), SOper.mk (some 11) none (SOp.p (POp.faddr 0 (SX.tmp 10))), SOper.mk (some 12) none (SOp.p (POp.faddr 1 (SX.tmp 3))), SOper.mk (some 13) none (SOp.p (POp.load1 (SX.tmp 12)))] [(SOper.mk (some 14) none (SOp.call (SX.lit (AV.func 37 [])) [SX.tmp 11, SX.tmp 13]), [], [])])
  SCode.ret)
  SCode.skip))
  (SCode.seq (SCode.ops [SOper.mk (some 15) none (SOp.p (POp.move (SX.tmp 0))), SOper.mk (some 16) none (SOp.p (POp.nilchk (SX.tmp 15))), SOper.mk (some 17) none (SOp.p (POp.faddr 0 (SX.tmp 16))), SOper.mk (some 18) none (SOp.call (SX.lit (AV.func 37 [])) [SX.tmp 17, SX.lit (AV.str [40])])])
  (SCode.seq (SCode.seq (SCode.ops [SOper.mk (some 19) none (SOp.p (POp.faddr 3 (SX.tmp 3))), SOper.mk (some 20) none (SOp.p (POp.load1 (SX.tmp 19))), SOper.mk (some 21) none (SOp.p (POp.lenS (SX.tmp 20))), SOper.mk (some 22) none (SOp.p (POp.move (SX.lit (AV.int IntKind.i64 0))))])
  (SCode.block 0 (SCode.loop c31_l0)))
  (SCode.ops [SOper.mk (some 37) none (SOp.p (POp.move (SX.tmp 0))), SOper.mk (some 38) none (SOp.p (POp.nilchk (SX.tmp 37))), SOper.mk (some 39) none (SOp.p (POp.faddr 0 (SX.tmp 38))), SOper.mk (some 40) none (SOp.call (SX.lit (AV.func 37 [])) [SX.tmp 39, SX.lit (AV.str [41])])]))))), []⟩
theorem code31 (own : FuncId → Option (List AV → Heap → R)) (mode : FuncId → Nat) : (slimPrg Try.prog own mode).code 31 = some c31 := by kernel_rfl
-- slices.Clone[[]thunk/api.Datum,thunk/api.Datum]
def c33 : SFunc := ⟨8, (SCode.seq (SCode.ops [SOper.mk (some 2) none (SOp.p (POp.move (SX.lit AV.nils)))])
  (SCode.seq (SCode.seq (SCode.ops [SOper.mk (some 3) none (SOp.p (POp.move (SX.tmp 0))), SOper.mk (some 4) none (SOp.p (POp.bin BinOp.eql EqT.slc (SX.tmp 3) (SX.lit AV.nils)))])
  (SCode.cond (SX.tmp 4)
  (SCode.seq (SCode.ops [SOper.mk (some 2) none (SOp.p (POp.move (SX.lit AV.nils)))])
  SCode.ret)
  SCode.skip))
  (SCode.seq (SCode.ops [SOper.mk (some 5) none (SOp.a (AOp.buildS [] 0 [])), SOper.mk (some 6) none (SOp.p (POp.move (SX.tmp 0))), SOper.mk (some 7) none (SOp.w (WOp.append 30 5 80 (SX.tmp 5) (SX.tmp 6))), SOper.mk (some 2) none (SOp.p (POp.move (SX.tmp 7)))])
  SCode.ret))), [ResV.tmp 2]⟩
theorem code33 (own : FuncId → Option (List AV → Heap → R)) (mode : FuncId → Nat) : (slimPrg Try.prog own mode).code 33 = some c33 := by kernel_rfl
-- slices.Equal[[]int,int]
def c34_l0 : SCode :=
  (SCode.seq (SCode.ops [SOper.mk (some 14) none (SOp.p (POp.bin BinOp.lss EqT.none (SX.tmp 13) (SX.tmp 12)))])
  (SCode.seq (SCode.cond (SX.tmp 14)
  SCode.skip
  (SCode.exit 0))
  (SCode.seq (SCode.block 1 (SCode.seq (SCode.ops [SOper.mk (some 15) none (SOp.p (POp.move (SX.tmp 13))), SOper.mk (some 5) none (SOp.p (POp.move (SX.tmp 15)))])
  (SCode.seq (SCode.draw [SOper.mk (some 16) none (SOp.p (POp.move (SX.tmp 0))), SOper.mk (some 17) none (SOp.p (POp.move (SX.tmp 5))), SOper.mk (some 18) none (SOp.p (POp.iaddr 1 (SX.tmp 16) (SX.tmp 17))), SOper.mk (some 19) none (SOp.p (POp.load1 (SX.tmp 18))), SOper.mk (some 20) none (SOp.p (POp.move (SX.tmp 1))), SOper.mk (some 21) none (SOp.p (POp.move (SX.tmp 5))), SOper.mk (some 22) none (SOp.p (POp.iaddr 1 (SX.tmp 20) (SX.tmp 21))), SOper.mk (some 23) none (SOp.p (POp.load1 (SX.tmp 22))), SOper.mk (some 24) none (SOp.p (POp.bin BinOp.neq EqT.none (SX.tmp 19) (SX.tmp 23)))] [])
  (SCode.cond (SX.tmp 24)
  (SCode.seq (SCode.ops [SOper.mk (some 4) none (SOp.p (POp.move (SX.lit (AV.bool false))))])
  SCode.ret)
  SCode.skip))))
  (SCode.ops [SOper.mk (some 25) none (SOp.p (POp.bin BinOp.add EqT.none (SX.tmp 13) (SX.lit (AV.int IntKind.i64 1)))), SOper.mk (some 13) none (SOp.p (POp.move (SX.tmp 25)))]))))
def c34 : SFunc := ⟨26, (SCode.seq (SCode.ops [SOper.mk (some 4) none (SOp.p (POp.move (SX.lit (AV.bool false))))])
  (SCode.seq (SCode.seq (SCode.ops [SOper.mk (some 6) none (SOp.p (POp.move (SX.tmp 0))), SOper.mk (some 7) none (SOp.p (POp.lenS (SX.tmp 6))), SOper.mk (some 8) none (SOp.p (POp.move (SX.tmp 1))), SOper.mk (some 9) none (SOp.p (POp.lenS (SX.tmp 8))), SOper.mk (some 10) none (SOp.p (POp.bin BinOp.neq EqT.none (SX.tmp 7) (SX.tmp 9)))])
  (SCode.cond (SX.tmp 10)
  (SCode.seq (SCode.ops [SOper.mk (some 4) none (SOp.p (POp.move (SX.lit (AV.bool false))))])
  SCode.ret)
  SCode.skip))
  (SCode.seq (SCode.seq (SCode.ops [SOper.mk (some 11) none (SOp.p (POp.move (SX.tmp 0))), SOper.mk (some 12) none (SOp.p (POp.lenS (SX.tmp 11))), SOper.mk (some 13) none (SOp.p (POp.move (SX.lit (AV.int IntKind.i64 0))))])
  (SCode.block 0 (SCode.loop c34_l0)))
  (SCode.seq (SCode.ops [SOper.mk (some 4) none (SOp.p (POp.move (SX.lit (AV.bool true))))])
  SCode.ret)))), [ResV.tmp 4]⟩
theorem code34 (own : FuncId → Option (List AV → Heap → R)) (mode : FuncId → Nat) : (slimPrg Try.prog own mode).code 34 = some c34 := by kernel_rfl
-- slices.EqualFunc[[]thunk/api.Datum,[]thunk/api.Datum,thunk/api.Datum,thunk/api.Datum]
def c35_l0 : SCode :=
  (SCode.seq (SCode.ops [SOper.mk (some 18) none (SOp.p (POp.bin BinOp.lss EqT.none (SX.tmp 17) (SX.tmp 16)))])
  (SCode.seq (SCode.cond (SX.tmp 18)
  SCode.skip
  (SCode.exit 0))
  (SCode.seq (SCode.block 1 (SCode.seq (SCode.ops [SOper.mk (some 19) none (SOp.p (POp.move (SX.tmp 17))), SOper.mk (some 20) none (SOp.p (POp.iaddr 5 (SX.tmp 15) (SX.tmp 17))), SOper.mk (some 21) none (SOp.p (POp.loadn 5 (SX.tmp 20))), SOper.mk (some 8) none (SOp.a (AOp.newc 30 [AV.int IntKind.i64 0, AV.str [], AV.nils, AV.nils, AV.int IntKind.i64 0])), SOper.mk (some 7) none (SOp.p (POp.move (SX.tmp 19))), SOper.mk none none (SOp.w (WOp.store 5 (SX.tmp 8) (SX.tmp 21)))])
  (SCode.seq (SCode.ops [SOper.mk (some 22) none (SOp.p (POp.move (SX.tmp 1))), SOper.mk (some 23) none (SOp.p (POp.move (SX.tmp 7))), SOper.mk (some 24) none (SOp.p (POp.iaddr 5 (SX.tmp 22) (SX.tmp 23))), SOper.mk (some 25) none (SOp.p (POp.loadn 5 (SX.tmp 24))), SOper.mk (some 9) none (SOp.a (AOp.newc 30 [AV.int IntKind.i64 0, AV.str [], AV.nils, AV.nils, AV.int IntKind.i64 0])), SOper.mk none none (SOp.w (WOp.store 5 (SX.tmp 9) (SX.tmp 25)))])
  (SCode.seq (SCode.ops [SOper.mk (some 26) none (SOp.p (POp.move (SX.tmp 2))), SOper.mk (some 27) none (SOp.p (POp.loadn 5 (SX.tmp 8))), SOper.mk (some 28) none (SOp.p (POp.loadn 5 (SX.tmp 9))), SOper.mk (some 29) none (SOp.call (SX.tmp 26) [SX.tmp 27, SX.tmp 28]), SOper.mk (some 30) none (SOp.p (POp.not (SX.tmp 29)))])
  (SCode.cond (SX.tmp 30)
  (SCode.seq (SCode.ops [SOper.mk (some 6) none (SOp.p (POp.move (SX.lit (AV.bool false))))])
  SCode.ret)
  SCode.skip)))))
  (SCode.ops [SOper.mk (some 31) none (SOp.p (POp.bin BinOp.add EqT.none (SX.tmp 17) (SX.lit (AV.int IntKind.i64 1)))), SOper.mk (some 17) none (SOp.p (POp.move (SX.tmp 31)))]))))
def c35 : SFunc := ⟨32, (SCode.seq (SCode.ops [SOper.mk (some 6) none (SOp.p (POp.move (SX.lit (AV.bool false))))])
  (SCode.seq (SCode.seq (SCode.ops [SOper.mk (some 10) none (SOp.p (POp.move (SX.tmp 0))), SOper.mk (some 11) none (SOp.p (POp.lenS (SX.tmp 10))), SOper.mk (some 12) none (SOp.p (POp.move (SX.tmp 1))), SOper.mk (some 13) none (SOp.p (POp.lenS (SX.tmp 12))), SOper.mk (some 14) none (SOp.p (POp.bin BinOp.neq EqT.none (SX.tmp 11) (SX.tmp 13)))])
  (SCode.cond (SX.tmp 14)
  (SCode.seq (SCode.ops [SOper.mk (some 6) none (SOp.p (POp.move (SX.lit (AV.bool false))))])
  SCode.ret)
  SCode.skip))
  (SCode.seq (SCode.seq (SCode.ops [SOper.mk (some 15) none (SOp.p (POp.move (SX.tmp 0))), SOper.mk (some 16) none (SOp.p (POp.lenS (SX.tmp 15))), SOper.mk (some 17) none (SOp.p (POp.move (SX.lit (AV.int IntKind.i64 0))))])
  (SCode.block 0 (SCode.loop c35_l0)))
  (SCode.seq (SCode.ops [SOper.mk (some 6) none (SOp.p (POp.move (SX.lit (AV.bool true))))])
  SCode.ret)))), [ResV.tmp 6]⟩
theorem code35 (own : FuncId → Option (List AV → Heap → R)) (mode : FuncId → Nat) : (slimPrg Try.prog own mode).code 35 = some c35 := by kernel_rfl
-- thunk/thunkref2.marks
def c36_l0 : SCode :=
  (SCode.seq (SCode.seq (SCode.ops [SOper.mk (some 11) none (SOp.p (POp.move (SX.tmp 5))), SOper.mk (some 12) none (SOp.p (POp.move (SX.tmp 0))), SOper.mk (some 13) none (SOp.p (POp.lenS (SX.tmp 12))), SOper.mk (some 14) none (SOp.p (POp.bin BinOp.lss EqT.none (SX.tmp 11) (SX.tmp 13)))])
  (SCode.cond (SX.tmp 14)
  SCode.skip
  (SCode.exit 0)))
  (SCode.seq (SCode.block 1 (SCode.seq (SCode.draw [SOper.mk (some 17) none (SOp.p (POp.move (SX.tmp 0))), SOper.mk (some 18) none (SOp.p (POp.move (SX.tmp 5))), SOper.mk (some 19) none (SOp.p (POp.iaddr 1 (SX.tmp 17) (SX.tmp 18))), SOper.mk (some 20) none (SOp.p (POp.load1 (SX.tmp 19))), SOper.mk (some 21) none (SOp.p (POp.move (SX.tmp 1))), SOper.mk (some 22) none (SOp.p (POp.move (SX.tmp 5))), SOper.mk (some 23) none (SOp.p (POp.iaddr 1 (SX.tmp 21) (SX.tmp 22))), SOper.mk (some 24) none (SOp.p (POp.load1 (SX.tmp 23))), SOper.mk (some 25) none (SOp.p (POp.bin BinOp.neq EqT.none (SX.tmp 20) (SX.tmp 24)))] [])
  (SCode.cond (SX.tmp 25)
  (SCode.seq (SCode.ops [SOper.mk (some 4) none (SOp.p (POp.move (SX.lit (AV.bool false))))])
  SCode.ret)
  SCode.skip)))
  (SCode.ops [SOper.mk (some 15) none (SOp.p (POp.move (SX.tmp 5))), SOper.mk (some 16) none (SOp.p (POp.bin BinOp.add EqT.none (SX.tmp 15) (SX.lit (AV.int IntKind.i64 1)))), SOper.mk (some 5) none (SOp.p (POp.move (SX.tmp 16)))])))
def c36 : SFunc := ⟨26, (SCode.seq (SCode.ops [SOper.mk (some 4) none (SOp.p (POp.move (SX.lit (AV.bool false))))])
  (SCode.seq (SCode.seq (SCode.ops [SOper.mk (some 6) none (SOp.p (POp.move (SX.tmp 0))), SOper.mk (some 7) none (SOp.p (POp.lenS (SX.tmp 6))), SOper.mk (some 8) none (SOp.p (POp.move (SX.tmp 1))), SOper.mk (some 9) none (SOp.p (POp.lenS (SX.tmp 8))), SOper.mk (some 10) none (SOp.p (POp.bin BinOp.neq EqT.none (SX.tmp 7) (SX.tmp 9)))])
  (SCode.cond (SX.tmp 10)
  (SCode.seq (SCode.ops [SOper.mk (some 4) none (SOp.p (POp.move (SX.lit (AV.bool false))))])
  SCode.ret)
  SCode.skip))
  (SCode.seq (SCode.seq (SCode.ops [SOper.mk (some 5) none (SOp.p (POp.move (SX.lit (AV.int IntKind.i64 0))))])
  (SCode.block 0 (SCode.loop c36_l0)))
  (SCode.seq (SCode.ops [SOper.mk (some 4) none (SOp.p (POp.move (SX.lit (AV.bool true))))])
  SCode.ret)))), [ResV.tmp 4]⟩
theorem code36 (own : FuncId → Option (List AV → Heap → R)) (mode : FuncId → Nat) : (slimPrg Try.prog own mode).code 36 = some c36 := by kernel_rfl
-- (*strings.Builder).WriteString
def c37 : SFunc := ⟨19, (SCode.seq (SCode.ops [SOper.mk (some 4) none (SOp.p (POp.move (SX.lit (AV.int IntKind.i64 0)))), SOper.mk (some 5) none (SOp.p (POp.move (SX.lit AV.nili)))])
  (SCode.seq (SCode.ops [SOper.mk (some 6) none (SOp.p (POp.move (SX.tmp 0))), SOper.mk (some 7) none (SOp.call (SX.lit (AV.func 38 [])) [SX.tmp 6])])
  (SCode.seq (SCode.ops [SOper.mk (some 8) none (SOp.p (POp.move (SX.tmp 0))), SOper.mk (some 9) none (SOp.p (POp.move (SX.tmp 0))), SOper.mk (some 10) none (SOp.p (POp.nilchk (SX.tmp 9))), SOper.mk (some 11) none (SOp.p (POp.faddr 1 (SX.tmp 10))), SOper.mk (some 12) none (SOp.p (POp.load1 (SX.tmp 11))), SOper.mk (some 13) none (SOp.p (POp.move (SX.tmp 1))), SOper.mk (some 14) none (SOp.w (WOp.append 5 1 1 (SX.tmp 12) (SX.tmp 13))), SOper.mk (some 15) none (SOp.p (POp.nilchk (SX.tmp 8))), SOper.mk (some 16) none (SOp.p (POp.faddr 1 (SX.tmp 15))), SOper.mk none none (SOp.w (WOp.store 1 (SX.tmp 16) (SX.tmp 14)))])
  (SCode.seq (SCode.ops [SOper.mk (some 17) none (SOp.p (POp.move (SX.tmp 1))), SOper.mk (some 18) none (SOp.p (POp.lenT (SX.tmp 17))), SOper.mk (some 4) none (SOp.p (POp.move (SX.tmp 18))), SOper.mk (some 5) none (SOp.p (POp.move (SX.lit AV.nili)))])
  SCode.ret)))), [ResV.tmp 4, ResV.tmp 5]⟩
theorem code37 (own : FuncId → Option (List AV → Heap → R)) (mode : FuncId → Nat) : (slimPrg Try.prog own mode).code 37 = some c37 := by kernel_rfl

end Go.Lite
