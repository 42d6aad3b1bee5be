/-
  Several texts in one: Code.
-/
import Derived.Test.YtlncgbcclmhicaaDoorQaC
import Derived.Test.YtlncgbcclmhicaaDoorProg
import Derived.KernelRfl

/-
  The slimmed code of the functions, printed by program, and that it is what is computed from the program.
-/
namespace Go.Lite
open Go Go.Proofs
set_option maxRecDepth 100000
-- thunk/thunklaw7.NormAll
def c3_l0 : SCode :=
  (SCode.seq (SCode.seq (SCode.ops [SOper.mk (some 14) none (SOp.p (POp.move (SX.tmp 6))), SOper.mk (some 15) none (SOp.p (POp.bin BinOp.lss EqT.none (SX.tmp 14) (SX.lit (AV.int IntKind.i64 5))))])
  (SCode.cond (SX.tmp 15)
  SCode.skip
  (SCode.exit 0)))
  (SCode.seq (SCode.block 1 (SCode.seq (SCode.seq (SCode.draw [SOper.mk (some 18) none (SOp.p (POp.loadn 4 (SX.tmp 5))), SOper.mk (some 20) none (SOp.p (POp.loadn 4 (SX.tmp 5)))] [(SOper.mk (some 19) none (SOp.call (SX.lit (AV.func 13 [])) [SX.tmp 18]), [SOper.mk (some 20) none (SOp.p (POp.loadn 4 (SX.tmp 5)))], []), (SOper.mk (some 21) none (SOp.call (SX.lit (AV.func 14 [])) [SX.tmp 20]), [], [SOper.mk (some 22) none (SOp.p (POp.bin BinOp.neq EqT.bool (SX.tmp 19) (SX.tmp 21))), SOper.mk (some 23) none (SOp.p (POp.move (SX.tmp 22))), SOper.mk (some 24) (some (23, false)) (SOp.p (POp.loadn 4 (SX.tmp 5))), SOper.mk (some 26) (some (23, false)) (SOp.p (POp.loadn 4 (SX.tmp 5)))]), (SOper.mk (some 25) (some (23, false)) (SOp.call (SX.lit (AV.func 16 [])) [SX.tmp 24]), [SOper.mk (some 26) (some (23, false)) (SOp.p (POp.loadn 4 (SX.tmp 5)))], []), (SOper.mk (some 27) (some (23, false)) (SOp.call (SX.lit (AV.func 17 [])) [SX.tmp 26]), [], []), (SOper.mk (some 28) (some (23, false)) (SOp.call (SX.lit (AV.func 15 [])) [SX.tmp 25, SX.tmp 27]), [], [SOper.mk (some 29) (some (23, false)) (SOp.p (POp.not (SX.tmp 28))), SOper.mk (some 30) none (SOp.p (POp.pick (SX.tmp 23) (SX.lit (AV.bool true)) (SX.tmp 29)))])])
  (SCode.cond (SX.tmp 30)
  (SCode.seq (SCode.ops [SOper.mk (some 4) none (SOp.p (POp.move (SX.lit (AV.bool false))))])
  SCode.ret)
  SCode.skip))
  (SCode.seq (SCode.seq (SCode.ops [SOper.mk (some 31) none (SOp.p (POp.faddr 3 (SX.tmp 5))), SOper.mk (some 32) none (SOp.p (POp.load1 (SX.tmp 31))), SOper.mk (some 33) none (SOp.p (POp.lenS (SX.tmp 32))), SOper.mk (some 34) none (SOp.p (POp.bin BinOp.eql EqT.none (SX.tmp 33) (SX.lit (AV.int IntKind.i64 0))))])
  (SCode.cond (SX.tmp 34)
  (SCode.seq (SCode.ops [SOper.mk (some 4) none (SOp.p (POp.move (SX.lit (AV.bool true))))])
  SCode.ret)
  SCode.skip))
  (SCode.draw [SOper.mk (some 35) none (SOp.p (POp.faddr 3 (SX.tmp 5))), SOper.mk (some 36) none (SOp.p (POp.load1 (SX.tmp 35))), SOper.mk (some 37) none (SOp.p (POp.move (SX.tmp 1))), SOper.mk (some 38) none (SOp.p (POp.move (SX.tmp 6))), SOper.mk (some 39) none (SOp.p (POp.bin BinOp.add EqT.none (SX.tmp 37) (SX.tmp 38))), SOper.mk (some 40) none (SOp.p (POp.faddr 3 (SX.tmp 5))), SOper.mk (some 41) none (SOp.p (POp.load1 (SX.tmp 40))), SOper.mk (some 42) none (SOp.p (POp.lenS (SX.tmp 41)))] [(SOper.mk (some 43) none (SOp.call (SX.lit (AV.func 18 [])) [SX.tmp 39, SX.tmp 42]), [SOper.mk (some 36) none (SOp.p (POp.load1 (SX.tmp 35)))], [SOper.mk (some 44) none (SOp.p (POp.iaddr 4 (SX.tmp 36) (SX.tmp 43))), SOper.mk (some 45) none (SOp.p (POp.loadn 4 (SX.tmp 44)))]), (SOper.mk none none (SOp.w (WOp.store 4 (SX.tmp 5) (SX.tmp 45))), [], [])]))))
  (SCode.ops [SOper.mk (some 16) none (SOp.p (POp.move (SX.tmp 6))), SOper.mk (some 17) none (SOp.p (POp.bin BinOp.add EqT.none (SX.tmp 16) (SX.lit (AV.int IntKind.i64 1)))), SOper.mk (some 6) none (SOp.p (POp.move (SX.tmp 17)))])))
def c3 : SFunc := ⟨46, (SCode.seq (SCode.ops [SOper.mk (some 4) none (SOp.p (POp.move (SX.lit (AV.bool false))))])
  (SCode.seq (SCode.seq (SCode.ops [SOper.mk (some 7) none (SOp.call (SX.lit (AV.func 10 [])) []), SOper.mk (some 8) none (SOp.p (POp.not (SX.tmp 7)))])
  (SCode.cond (SX.tmp 8)
  (SCode.seq (SCode.ops [SOper.mk (some 4) none (SOp.p (POp.move (SX.lit (AV.bool false))))])
  SCode.ret)
  SCode.skip))
  (SCode.seq (SCode.seq (SCode.ops [SOper.mk (some 9) none (SOp.p (POp.move (SX.tmp 0))), SOper.mk (some 10) none (SOp.call (SX.lit (AV.func 11 [])) [SX.tmp 9]), SOper.mk (some 11) none (SOp.p (POp.not (SX.tmp 10)))])
  (SCode.cond (SX.tmp 11)
  (SCode.seq (SCode.ops [SOper.mk (some 4) none (SOp.p (POp.move (SX.lit (AV.bool true))))])
  SCode.ret)
  SCode.skip))
  (SCode.seq (SCode.ops [SOper.mk (some 12) none (SOp.p (POp.move (SX.tmp 0))), SOper.mk (some 13) none (SOp.call (SX.lit (AV.func 12 [])) [SX.tmp 12]), SOper.mk (some 5) none (SOp.a (AOp.newc 28 [AV.int IntKind.i64 0, AV.str [], AV.nils, AV.nils])), SOper.mk none none (SOp.w (WOp.store 4 (SX.tmp 5) (SX.tmp 13)))])
  (SCode.seq (SCode.seq (SCode.ops [SOper.mk (some 6) none (SOp.p (POp.move (SX.lit (AV.int IntKind.i64 0))))])
  (SCode.block 0 (SCode.loop c3_l0)))
  (SCode.seq (SCode.ops [SOper.mk (some 4) none (SOp.p (POp.move (SX.lit (AV.bool true))))])
  SCode.ret)))))), [ResV.tmp 4]⟩
theorem code3 (own : FuncId → Option (List AV → Heap → R)) (mode : FuncId → Nat) : (slimPrg Tryd.prog own mode).code 3 = some c3 := by kernel_rfl
-- thunk/thunklaw7.NormIs
def c4 : SFunc := ⟨38, (SCode.seq (SCode.ops [SOper.mk (some 2) none (SOp.p (POp.move (SX.lit (AV.bool false))))])
  (SCode.seq (SCode.seq (SCode.ops [SOper.mk (some 5) none (SOp.call (SX.lit (AV.func 10 [])) []), SOper.mk (some 6) none (SOp.p (POp.not (SX.tmp 5)))])
  (SCode.cond (SX.tmp 6)
  (SCode.seq (SCode.ops [SOper.mk (some 2) none (SOp.p (POp.move (SX.lit (AV.bool false))))])
  SCode.ret)
  SCode.skip))
  (SCode.seq (SCode.seq (SCode.ops [SOper.mk (some 7) none (SOp.p (POp.move (SX.tmp 0))), SOper.mk (some 8) none (SOp.call (SX.lit (AV.func 11 [])) [SX.tmp 7]), SOper.mk (some 9) none (SOp.p (POp.not (SX.tmp 8)))])
  (SCode.cond (SX.tmp 9)
  (SCode.seq (SCode.ops [SOper.mk (some 2) none (SOp.p (POp.move (SX.lit (AV.bool true))))])
  SCode.ret)
  SCode.skip))
  (SCode.seq (SCode.ops [SOper.mk (some 10) none (SOp.p (POp.move (SX.tmp 0))), SOper.mk (some 11) none (SOp.call (SX.lit (AV.func 12 [])) [SX.tmp 10]), SOper.mk (some 3) none (SOp.a (AOp.newc 28 [AV.int IntKind.i64 0, AV.str [], AV.nils, AV.nils])), SOper.mk none none (SOp.w (WOp.store 4 (SX.tmp 3) (SX.tmp 11)))])
  (SCode.seq (SCode.ops [SOper.mk (some 12) none (SOp.p (POp.loadn 4 (SX.tmp 3))), SOper.mk (some 13) none (SOp.call (SX.lit (AV.func 16 [])) [SX.tmp 12]), SOper.mk (some 4) none (SOp.a (AOp.newc 28 [AV.int IntKind.i64 0, AV.str [], AV.nils, AV.nils])), SOper.mk none none (SOp.w (WOp.store 4 (SX.tmp 4) (SX.tmp 13)))])
  (SCode.seq (SCode.draw [SOper.mk (some 14) none (SOp.p (POp.loadn 4 (SX.tmp 4)))] [(SOper.mk (some 15) none (SOp.call (SX.lit (AV.func 13 [])) [SX.tmp 14]), [], [SOper.mk (some 16) none (SOp.p (POp.move (SX.tmp 15))), SOper.mk (some 17) (some (16, true)) (SOp.p (POp.loadn 4 (SX.tmp 4)))]), (SOper.mk (some 18) (some (16, true)) (SOp.call (SX.lit (AV.func 19 [])) [SX.tmp 17]), [], [SOper.mk (some 19) none (SOp.p (POp.pick (SX.tmp 16) (SX.tmp 18) (SX.lit (AV.bool false)))), SOper.mk (some 20) none (SOp.p (POp.move (SX.tmp 19))), SOper.mk (some 21) (some (20, true)) (SOp.p (POp.loadn 4 (SX.tmp 4)))]), (SOper.mk (some 22) (some (20, true)) (SOp.call (SX.lit (AV.func 20 [])) [SX.tmp 21]), [], [SOper.mk (some 23) (some (20, true)) (SOp.p (POp.lenS (SX.tmp 22))), SOper.mk (some 24) (some (20, true)) (SOp.p (POp.bin BinOp.eql EqT.none (SX.tmp 23) (SX.lit (AV.int IntKind.i64 0)))), SOper.mk (some 25) none (SOp.p (POp.pick (SX.tmp 20) (SX.tmp 24) (SX.lit (AV.bool false)))), SOper.mk (some 26) none (SOp.p (POp.move (SX.tmp 25))), SOper.mk (some 27) (some (26, true)) (SOp.p (POp.loadn 4 (SX.tmp 4)))]), (SOper.mk (some 28) (some (26, true)) (SOp.call (SX.lit (AV.func 22 [])) [SX.tmp 27, SX.lit AV.nils]), [], []), (SOper.mk (some 29) (some (26, true)) (SOp.call (SX.lit (AV.func 21 [])) [SX.tmp 28]), [], [SOper.mk (some 30) none (SOp.p (POp.pick (SX.tmp 26) (SX.tmp 29) (SX.lit (AV.bool false)))), SOper.mk (some 31) none (SOp.p (POp.move (SX.tmp 30))), SOper.mk (some 32) (some (31, true)) (SOp.p (POp.loadn 4 (SX.tmp 4))), SOper.mk (some 34) (some (31, true)) (SOp.p (POp.loadn 4 (SX.tmp 3)))]), (SOper.mk (some 33) (some (31, true)) (SOp.call (SX.lit (AV.func 23 [])) [SX.tmp 32]), [SOper.mk (some 34) (some (31, true)) (SOp.p (POp.loadn 4 (SX.tmp 3)))], []), (SOper.mk (some 35) (some (31, true)) (SOp.call (SX.lit (AV.func 23 [])) [SX.tmp 34]), [], [SOper.mk (some 36) (some (31, true)) (SOp.p (POp.bin BinOp.geq EqT.none (SX.tmp 33) (SX.tmp 35))), SOper.mk (some 37) none (SOp.p (POp.pick (SX.tmp 31) (SX.tmp 36) (SX.lit (AV.bool false)))), SOper.mk (some 2) none (SOp.p (POp.move (SX.tmp 37)))])])
  SCode.ret)))))), [ResV.tmp 2]⟩
theorem code4 (own : FuncId → Option (List AV → Heap → R)) (mode : FuncId → Nat) : (slimPrg Tryd.prog own mode).code 4 = some c4 := by kernel_rfl
-- thunk/thunklaw7.NormStays
def c5 : SFunc := ⟨26, (SCode.seq (SCode.ops [SOper.mk (some 2) none (SOp.p (POp.move (SX.lit (AV.bool false))))])
  (SCode.seq (SCode.seq (SCode.ops [SOper.mk (some 5) none (SOp.call (SX.lit (AV.func 10 [])) []), SOper.mk (some 6) none (SOp.p (POp.not (SX.tmp 5)))])
  (SCode.cond (SX.tmp 6)
  (SCode.seq (SCode.ops [SOper.mk (some 2) none (SOp.p (POp.move (SX.lit (AV.bool false))))])
  SCode.ret)
  SCode.skip))
  (SCode.seq (SCode.seq (SCode.ops [SOper.mk (some 7) none (SOp.p (POp.move (SX.tmp 0))), SOper.mk (some 8) none (SOp.call (SX.lit (AV.func 11 [])) [SX.tmp 7]), SOper.mk (some 9) none (SOp.p (POp.not (SX.tmp 8)))])
  (SCode.cond (SX.tmp 9)
  (SCode.seq (SCode.ops [SOper.mk (some 2) none (SOp.p (POp.move (SX.lit (AV.bool true))))])
  SCode.ret)
  SCode.skip))
  (SCode.seq (SCode.ops [SOper.mk (some 10) none (SOp.p (POp.move (SX.tmp 0))), SOper.mk (some 11) none (SOp.call (SX.lit (AV.func 12 [])) [SX.tmp 10]), SOper.mk (some 3) none (SOp.a (AOp.newc 28 [AV.int IntKind.i64 0, AV.str [], AV.nils, AV.nils])), SOper.mk none none (SOp.w (WOp.store 4 (SX.tmp 3) (SX.tmp 11)))])
  (SCode.seq (SCode.ops [SOper.mk (some 12) none (SOp.p (POp.loadn 4 (SX.tmp 3))), SOper.mk (some 13) none (SOp.call (SX.lit (AV.func 16 [])) [SX.tmp 12]), SOper.mk (some 4) none (SOp.a (AOp.newc 28 [AV.int IntKind.i64 0, AV.str [], AV.nils, AV.nils])), SOper.mk none none (SOp.w (WOp.store 4 (SX.tmp 4) (SX.tmp 13)))])
  (SCode.seq (SCode.draw [SOper.mk (some 14) none (SOp.p (POp.loadn 4 (SX.tmp 4))), SOper.mk (some 16) none (SOp.p (POp.loadn 4 (SX.tmp 4)))] [(SOper.mk (some 15) none (SOp.call (SX.lit (AV.func 16 [])) [SX.tmp 14]), [SOper.mk (some 16) none (SOp.p (POp.loadn 4 (SX.tmp 4)))], []), (SOper.mk (some 17) none (SOp.call (SX.lit (AV.func 15 [])) [SX.tmp 15, SX.tmp 16]), [], [SOper.mk (some 18) none (SOp.p (POp.move (SX.tmp 17))), SOper.mk (some 19) (some (18, true)) (SOp.p (POp.loadn 4 (SX.tmp 3))), SOper.mk (some 21) (some (18, true)) (SOp.p (POp.loadn 4 (SX.tmp 4))), SOper.mk (some 22) (some (18, true)) (SOp.p (POp.loadn 4 (SX.tmp 3)))]), (SOper.mk (some 20) (some (18, true)) (SOp.call (SX.lit (AV.func 13 [])) [SX.tmp 19]), [SOper.mk (some 21) (some (18, true)) (SOp.p (POp.loadn 4 (SX.tmp 4))), SOper.mk (some 22) (some (18, true)) (SOp.p (POp.loadn 4 (SX.tmp 3)))], []), (SOper.mk (some 23) (some (18, true)) (SOp.call (SX.lit (AV.func 15 [])) [SX.tmp 21, SX.tmp 22]), [], [SOper.mk (some 24) (some (18, true)) (SOp.p (POp.bin BinOp.eql EqT.bool (SX.tmp 20) (SX.tmp 23))), SOper.mk (some 25) none (SOp.p (POp.pick (SX.tmp 18) (SX.tmp 24) (SX.lit (AV.bool false)))), SOper.mk (some 2) none (SOp.p (POp.move (SX.tmp 25)))])])
  SCode.ret)))))), [ResV.tmp 2]⟩
theorem code5 (own : FuncId → Option (List AV → Heap → R)) (mode : FuncId → Nat) : (slimPrg Tryd.prog own mode).code 5 = some c5 := by kernel_rfl
-- thunk/thunklaw7.NormCounts
def c6_l0 : SCode :=
  (SCode.seq (SCode.seq (SCode.ops [SOper.mk (some 42) none (SOp.p (POp.move (SX.tmp 9))), SOper.mk (some 43) none (SOp.p (POp.move (SX.tmp 6))), SOper.mk (some 44) none (SOp.p (POp.lenS (SX.tmp 43))), SOper.mk (some 45) none (SOp.p (POp.bin BinOp.lss EqT.none (SX.tmp 42) (SX.tmp 44)))])
  (SCode.cond (SX.tmp 45)
  SCode.skip
  (SCode.exit 0)))
  (SCode.seq (SCode.block 1 (SCode.seq (SCode.ops [SOper.mk (some 48) none (SOp.p (POp.move (SX.tmp 6))), SOper.mk (some 49) none (SOp.p (POp.move (SX.tmp 9))), SOper.mk (some 50) none (SOp.p (POp.iaddr 1 (SX.tmp 48) (SX.tmp 49))), SOper.mk (some 51) none (SOp.p (POp.load1 (SX.tmp 50))), SOper.mk (some 52) none (SOp.p (POp.lenT (SX.tmp 51))), SOper.mk (some 53) none (SOp.p (POp.bin BinOp.gtr EqT.none (SX.tmp 52) (SX.lit (AV.int IntKind.i64 0)))), SOper.mk (some 54) none (SOp.p (POp.move (SX.tmp 53))), SOper.mk (some 55) (some (54, true)) (SOp.p (POp.move (SX.tmp 6))), SOper.mk (some 56) (some (54, true)) (SOp.p (POp.move (SX.tmp 9))), SOper.mk (some 57) (some (54, true)) (SOp.p (POp.iaddr 1 (SX.tmp 55) (SX.tmp 56))), SOper.mk (some 58) (some (54, true)) (SOp.p (POp.load1 (SX.tmp 57))), SOper.mk (some 59) (some (54, true)) (SOp.p (POp.indexT (SX.tmp 58) (SX.lit (AV.int IntKind.i64 0)))), SOper.mk (some 60) (some (54, true)) (SOp.p (POp.bin BinOp.eql EqT.none (SX.tmp 59) (SX.lit (AV.int IntKind.u8 37)))), SOper.mk (some 61) none (SOp.p (POp.pick (SX.tmp 54) (SX.tmp 60) (SX.lit (AV.bool false))))])
  (SCode.cond (SX.tmp 61)
  (SCode.ops [SOper.mk (some 62) none (SOp.p (POp.move (SX.tmp 8))), SOper.mk (some 63) none (SOp.p (POp.bin BinOp.add EqT.none (SX.tmp 62) (SX.lit (AV.int IntKind.i64 1)))), SOper.mk (some 8) none (SOp.p (POp.move (SX.tmp 63)))])
  SCode.skip)))
  (SCode.ops [SOper.mk (some 46) none (SOp.p (POp.move (SX.tmp 9))), SOper.mk (some 47) none (SOp.p (POp.bin BinOp.add EqT.none (SX.tmp 46) (SX.lit (AV.int IntKind.i64 1)))), SOper.mk (some 9) none (SOp.p (POp.move (SX.tmp 47)))])))
def c6 : SFunc := ⟨67, (SCode.seq (SCode.ops [SOper.mk (some 2) none (SOp.p (POp.move (SX.lit (AV.bool false))))])
  (SCode.seq (SCode.seq (SCode.ops [SOper.mk (some 10) none (SOp.call (SX.lit (AV.func 10 [])) []), SOper.mk (some 11) none (SOp.p (POp.not (SX.tmp 10)))])
  (SCode.cond (SX.tmp 11)
  (SCode.seq (SCode.ops [SOper.mk (some 2) none (SOp.p (POp.move (SX.lit (AV.bool false))))])
  SCode.ret)
  SCode.skip))
  (SCode.seq (SCode.seq (SCode.ops [SOper.mk (some 12) none (SOp.p (POp.move (SX.tmp 0))), SOper.mk (some 13) none (SOp.call (SX.lit (AV.func 11 [])) [SX.tmp 12]), SOper.mk (some 14) none (SOp.p (POp.not (SX.tmp 13)))])
  (SCode.cond (SX.tmp 14)
  (SCode.seq (SCode.ops [SOper.mk (some 2) none (SOp.p (POp.move (SX.lit (AV.bool true))))])
  SCode.ret)
  SCode.skip))
  (SCode.seq (SCode.ops [SOper.mk (some 15) none (SOp.p (POp.move (SX.tmp 0))), SOper.mk (some 16) none (SOp.call (SX.lit (AV.func 12 [])) [SX.tmp 15]), SOper.mk (some 3) none (SOp.a (AOp.newc 28 [AV.int IntKind.i64 0, AV.str [], AV.nils, AV.nils])), SOper.mk none none (SOp.w (WOp.store 4 (SX.tmp 3) (SX.tmp 16)))])
  (SCode.seq (SCode.ops [SOper.mk (some 17) none (SOp.p (POp.loadn 4 (SX.tmp 3))), SOper.mk (some 18) none (SOp.call (SX.lit (AV.func 16 [])) [SX.tmp 17]), SOper.mk (some 4) none (SOp.a (AOp.newc 28 [AV.int IntKind.i64 0, AV.str [], AV.nils, AV.nils])), SOper.mk none none (SOp.w (WOp.store 4 (SX.tmp 4) (SX.tmp 18)))])
  (SCode.seq (SCode.draw [SOper.mk (some 19) none (SOp.p (POp.loadn 4 (SX.tmp 3))), SOper.mk (some 21) none (SOp.p (POp.loadn 4 (SX.tmp 4)))] [(SOper.mk (some 20) none (SOp.call (SX.lit (AV.func 22 [])) [SX.tmp 19, SX.lit AV.nils]), [SOper.mk (some 21) none (SOp.p (POp.loadn 4 (SX.tmp 4)))], []), (SOper.mk (some 22) none (SOp.call (SX.lit (AV.func 22 [])) [SX.tmp 21, SX.lit AV.nils]), [], [SOper.mk (some 5) none (SOp.p (POp.move (SX.tmp 20))), SOper.mk (some 6) none (SOp.p (POp.move (SX.tmp 22)))])])
  (SCode.seq (SCode.ops [SOper.mk (some 23) none (SOp.p (POp.loadn 4 (SX.tmp 3))), SOper.mk (some 24) none (SOp.call (SX.lit (AV.func 24 [])) [SX.tmp 23]), SOper.mk (some 7) none (SOp.p (POp.move (SX.tmp 24)))])
  (SCode.seq (SCode.seq (SCode.draw [SOper.mk (some 25) none (SOp.p (POp.move (SX.tmp 6))), SOper.mk (some 26) none (SOp.p (POp.lenS (SX.tmp 25))), SOper.mk (some 27) none (SOp.p (POp.move (SX.tmp 5))), SOper.mk (some 28) none (SOp.p (POp.lenS (SX.tmp 27))), SOper.mk (some 29) none (SOp.p (POp.move (SX.tmp 7))), SOper.mk (some 30) none (SOp.p (POp.bin BinOp.add EqT.none (SX.tmp 28) (SX.tmp 29))), SOper.mk (some 31) none (SOp.p (POp.bin BinOp.neq EqT.none (SX.tmp 26) (SX.tmp 30))), SOper.mk (some 32) none (SOp.p (POp.move (SX.tmp 31))), SOper.mk (some 33) (some (32, false)) (SOp.p (POp.loadn 4 (SX.tmp 4))), SOper.mk (some 35) (some (32, false)) (SOp.p (POp.loadn 4 (SX.tmp 3))), SOper.mk (some 37) (some (32, false)) (SOp.p (POp.move (SX.tmp 7))), SOper.mk (some 38) (some (32, false)) (SOp.p (POp.bin BinOp.mul EqT.none (SX.lit (AV.int IntKind.i64 2)) (SX.tmp 37)))] [(SOper.mk (some 34) (some (32, false)) (SOp.call (SX.lit (AV.func 23 [])) [SX.tmp 33]), [SOper.mk (some 35) (some (32, false)) (SOp.p (POp.loadn 4 (SX.tmp 3)))], []), (SOper.mk (some 36) (some (32, false)) (SOp.call (SX.lit (AV.func 23 [])) [SX.tmp 35]), [], [SOper.mk (some 39) (some (32, false)) (SOp.p (POp.bin BinOp.add EqT.none (SX.tmp 36) (SX.tmp 38))), SOper.mk (some 40) (some (32, false)) (SOp.p (POp.bin BinOp.neq EqT.none (SX.tmp 34) (SX.tmp 39))), SOper.mk (some 41) none (SOp.p (POp.pick (SX.tmp 32) (SX.lit (AV.bool true)) (SX.tmp 40)))])])
  (SCode.cond (SX.tmp 41)
  (SCode.seq (SCode.ops [SOper.mk (some 2) none (SOp.p (POp.move (SX.lit (AV.bool false))))])
  SCode.ret)
  SCode.skip))
  (SCode.seq (SCode.ops [SOper.mk (some 8) none (SOp.p (POp.move (SX.lit (AV.int IntKind.i64 0))))])
  (SCode.seq (SCode.seq (SCode.ops [SOper.mk (some 9) none (SOp.p (POp.move (SX.lit (AV.int IntKind.i64 0))))])
  (SCode.block 0 (SCode.loop c6_l0)))
  (SCode.seq (SCode.ops [SOper.mk (some 64) none (SOp.p (POp.move (SX.tmp 8))), SOper.mk (some 65) none (SOp.p (POp.move (SX.tmp 7))), SOper.mk (some 66) none (SOp.p (POp.bin BinOp.eql EqT.none (SX.tmp 64) (SX.tmp 65))), SOper.mk (some 2) none (SOp.p (POp.move (SX.tmp 66)))])
  SCode.ret))))))))))), [ResV.tmp 2]⟩
theorem code6 (own : FuncId → Option (List AV → Heap → R)) (mode : FuncId → Nat) : (slimPrg Tryd.prog own mode).code 6 = some c6 := by kernel_rfl
-- thunk/thunklaw7.NormKnown
def c7 : SFunc := ⟨67, (SCode.seq (SCode.ops [SOper.mk (some 2) none (SOp.p (POp.move (SX.lit (AV.bool false))))])
  (SCode.seq (SCode.seq (SCode.ops [SOper.mk (some 11) none (SOp.call (SX.lit (AV.func 10 [])) []), SOper.mk (some 12) none (SOp.p (POp.not (SX.tmp 11)))])
  (SCode.cond (SX.tmp 12)
  (SCode.seq (SCode.ops [SOper.mk (some 2) none (SOp.p (POp.move (SX.lit (AV.bool false))))])
  SCode.ret)
  SCode.skip))
  (SCode.seq (SCode.ops [SOper.mk (some 13) none (SOp.call (SX.lit (AV.func 25 [])) [SX.lit (AV.str [102])]), SOper.mk (some 14) none (SOp.call (SX.lit (AV.func 25 [])) [SX.lit (AV.str [120])]), SOper.mk (some 3) none (SOp.a (AOp.newc 28 [AV.int IntKind.i64 0, AV.str [], AV.nils, AV.nils])), SOper.mk (some 4) none (SOp.a (AOp.newc 28 [AV.int IntKind.i64 0, AV.str [], AV.nils, AV.nils])), SOper.mk none none (SOp.w (WOp.store 4 (SX.tmp 3) (SX.tmp 13))), SOper.mk none none (SOp.w (WOp.store 4 (SX.tmp 4) (SX.tmp 14)))])
  (SCode.seq (SCode.ops [SOper.mk (some 15) none (SOp.p (POp.build [AV.int IntKind.i64 0, AV.str [], AV.nils, AV.nils] [(0, 1, SX.lit (AV.int IntKind.i64 1)), (1, 1, SX.lit (AV.str [49]))])), SOper.mk (some 5) none (SOp.a (AOp.newc 28 [AV.int IntKind.i64 0, AV.str [], AV.nils, AV.nils])), SOper.mk none none (SOp.w (WOp.store 4 (SX.tmp 5) (SX.tmp 15)))])
  (SCode.seq (SCode.ops [SOper.mk (some 16) none (SOp.p (POp.loadn 4 (SX.tmp 4))), SOper.mk (some 17) none (SOp.p (POp.loadn 4 (SX.tmp 5))), SOper.mk (some 18) none (SOp.a (AOp.buildS [AV.int IntKind.i64 0, AV.str [], AV.nils, AV.nils, AV.int IntKind.i64 0, AV.str [], AV.nils, AV.nils] 2 [(0, 4, SX.tmp 16), (4, 4, SX.tmp 17)])), SOper.mk (some 19) none (SOp.p (POp.build [AV.int IntKind.i64 0, AV.str [], AV.nils, AV.nils] [(0, 1, SX.lit (AV.int IntKind.i64 10)), (1, 1, SX.lit (AV.str [43])), (3, 1, SX.tmp 18)])), SOper.mk (some 6) none (SOp.a (AOp.newc 28 [AV.int IntKind.i64 0, AV.str [], AV.nils, AV.nils])), SOper.mk none none (SOp.w (WOp.store 4 (SX.tmp 6) (SX.tmp 19)))])
  (SCode.seq (SCode.ops [SOper.mk (some 20) none (SOp.p (POp.loadn 4 (SX.tmp 3))), SOper.mk (some 21) none (SOp.p (POp.loadn 4 (SX.tmp 6))), SOper.mk (some 22) none (SOp.a (AOp.buildS [AV.int IntKind.i64 0, AV.str [], AV.nils, AV.nils, AV.int IntKind.i64 0, AV.str [], AV.nils, AV.nils] 2 [(0, 4, SX.tmp 20), (4, 4, SX.tmp 21)])), SOper.mk (some 23) none (SOp.p (POp.build [AV.int IntKind.i64 0, AV.str [], AV.nils, AV.nils] [(0, 1, SX.lit (AV.int IntKind.i64 7)), (3, 1, SX.tmp 22)])), SOper.mk (some 7) none (SOp.a (AOp.newc 28 [AV.int IntKind.i64 0, AV.str [], AV.nils, AV.nils])), SOper.mk none none (SOp.w (WOp.store 4 (SX.tmp 7) (SX.tmp 23)))])
  (SCode.seq (SCode.ops [SOper.mk (some 24) none (SOp.p (POp.loadn 4 (SX.tmp 7))), SOper.mk (some 25) none (SOp.p (POp.loadn 4 (SX.tmp 3))), SOper.mk (some 26) none (SOp.p (POp.loadn 4 (SX.tmp 7))), SOper.mk (some 27) none (SOp.p (POp.loadn 4 (SX.tmp 4))), SOper.mk (some 28) none (SOp.p (POp.loadn 4 (SX.tmp 6))), SOper.mk (some 29) none (SOp.a (AOp.buildS [AV.int IntKind.i64 0, AV.str [], AV.nils, AV.nils, AV.int IntKind.i64 0, AV.str [], AV.nils, AV.nils, AV.int IntKind.i64 0, AV.str [], AV.nils, AV.nils, AV.int IntKind.i64 0, AV.str [], AV.nils, AV.nils] 4 [(0, 4, SX.tmp 25), (4, 4, SX.tmp 26), (8, 4, SX.tmp 27), (12, 4, SX.tmp 28)])), SOper.mk (some 30) none (SOp.p (POp.build [AV.int IntKind.i64 0, AV.str [], AV.nils, AV.nils] [(0, 1, SX.lit (AV.int IntKind.i64 7)), (3, 1, SX.tmp 29)])), SOper.mk (some 31) none (SOp.p (POp.loadn 4 (SX.tmp 7))), SOper.mk (some 32) none (SOp.p (POp.loadn 4 (SX.tmp 6))), SOper.mk (some 33) none (SOp.a (AOp.buildS [AV.int IntKind.i64 0, AV.str [], AV.nils, AV.nils, AV.int IntKind.i64 0, AV.str [], AV.nils, AV.nils] 2 [(0, 4, SX.tmp 31), (4, 4, SX.tmp 32)])), SOper.mk (some 34) none (SOp.p (POp.build [AV.int IntKind.i64 0, AV.str [], AV.nils, AV.nils] [(0, 1, SX.lit (AV.int IntKind.i64 10)), (1, 1, SX.lit (AV.str [43])), (3, 1, SX.tmp 33)])), SOper.mk (some 35) none (SOp.p (POp.loadn 4 (SX.tmp 6))), SOper.mk (some 36) none (SOp.p (POp.loadn 4 (SX.tmp 5))), SOper.mk (some 37) none (SOp.p (POp.loadn 4 (SX.tmp 4))), SOper.mk (some 38) none (SOp.a (AOp.buildS [AV.int IntKind.i64 0, AV.str [], AV.nils, AV.nils, AV.int IntKind.i64 0, AV.str [], AV.nils, AV.nils] 2 [(0, 4, SX.tmp 36), (4, 4, SX.tmp 37)])), SOper.mk (some 39) none (SOp.p (POp.build [AV.int IntKind.i64 0, AV.str [], AV.nils, AV.nils] [(0, 1, SX.lit (AV.int IntKind.i64 10)), (1, 1, SX.lit (AV.str [99, 111, 110, 115])), (3, 1, SX.tmp 38)])), SOper.mk (some 40) none (SOp.a (AOp.buildS [AV.int IntKind.i64 0, AV.str [], AV.nils, AV.nils, AV.int IntKind.i64 0, AV.str [], AV.nils, AV.nils] 2 [(0, 4, SX.tmp 35), (4, 4, SX.tmp 39)])), SOper.mk (some 41) none (SOp.p (POp.build [AV.int IntKind.i64 0, AV.str [], AV.nils, AV.nils] [(0, 1, SX.lit (AV.int IntKind.i64 10)), (1, 1, SX.lit (AV.str [99, 111, 110, 115])), (3, 1, SX.tmp 40)])), SOper.mk (some 42) none (SOp.p (POp.loadn 4 (SX.tmp 7))), SOper.mk (some 43) none (SOp.p (POp.loadn 4 (SX.tmp 4))), SOper.mk (some 44) none (SOp.a (AOp.buildS [AV.int IntKind.i64 0, AV.str [], AV.nils, AV.nils, AV.int IntKind.i64 0, AV.str [], AV.nils, AV.nils] 2 [(0, 4, SX.tmp 42), (4, 4, SX.tmp 43)])), SOper.mk (some 45) none (SOp.p (POp.build [AV.int IntKind.i64 0, AV.str [], AV.nils, AV.nils] [(0, 1, SX.lit (AV.int IntKind.i64 7)), (3, 1, SX.tmp 44)])), SOper.mk (some 46) none (SOp.a (AOp.buildS [AV.str []] 1 [(0, 1, SX.lit (AV.str [121]))])), SOper.mk (some 47) none (SOp.p (POp.loadn 4 (SX.tmp 7))), SOper.mk (some 48) none (SOp.a (AOp.buildS [AV.int IntKind.i64 0, AV.str [], AV.nils, AV.nils] 1 [(0, 4, SX.tmp 47)])), SOper.mk (some 49) none (SOp.p (POp.build [AV.int IntKind.i64 0, AV.str [], AV.nils, AV.nils] [(0, 1, SX.lit (AV.int IntKind.i64 6)), (2, 1, SX.tmp 46), (3, 1, SX.tmp 48)])), SOper.mk (some 50) none (SOp.a (AOp.buildS [AV.int IntKind.i64 0, AV.str [], AV.nils, AV.nils, AV.int IntKind.i64 0, AV.str [], AV.nils, AV.nils, AV.int IntKind.i64 0, AV.str [], AV.nils, AV.nils, AV.int IntKind.i64 0, AV.str [], AV.nils, AV.nils, AV.int IntKind.i64 0, AV.str [], AV.nils, AV.nils, AV.int IntKind.i64 0, AV.str [], AV.nils, AV.nils] 6 [(0, 4, SX.tmp 24), (4, 4, SX.tmp 30), (8, 4, SX.tmp 34), (12, 4, SX.tmp 41), (16, 4, SX.tmp 45), (20, 4, SX.tmp 49)])), SOper.mk (some 8) none (SOp.p (POp.move (SX.tmp 50)))])
  (SCode.seq (SCode.ops [SOper.mk (some 51) none (SOp.a (AOp.buildS [AV.str [], AV.str [], AV.str [], AV.str [], AV.str [], AV.str []] 6 [(0, 1, SX.lit (AV.str [40, 108, 101, 116, 32, 40, 40, 37, 46, 49, 32, 40, 43, 32, 120, 32, 49, 41, 41, 41, 32, 40, 102, 32, 37, 46, 49, 41, 41])), (1, 1, SX.lit (AV.str [40, 108, 101, 116, 32, 40, 40, 37, 46, 50, 32, 40, 108, 101, 116, 32, 40, 40, 37, 46, 49, 32, 40, 43, 32, 120, 32, 49, 41, 41, 41, 32, 40, 102, 32, 37, 46, 49, 41, 41, 41, 41, 32, 40, 108, 101, 116, 32, 40, 40, 37, 46, 51, 32, 40, 43, 32, 120, 32, 49, 41, 41, 41, 32, 40, 102, 32, 37, 46, 50, 32, 120, 32, 37, 46, 51, 41, 41, 41])), (2, 1, SX.lit (AV.str [40, 43, 32, 40, 108, 101, 116, 32, 40, 40, 37, 46, 49, 32, 40, 43, 32, 120, 32, 49, 41, 41, 41, 32, 40, 102, 32, 37, 46, 49, 41, 41, 32, 40, 43, 32, 120, 32, 49, 41, 41])), (3, 1, SX.lit (AV.str [40, 108, 101, 116, 32, 40, 40, 37, 46, 49, 32, 40, 43, 32, 120, 32, 49, 41, 41, 41, 32, 40, 108, 101, 116, 32, 40, 40, 37, 46, 50, 32, 40, 99, 111, 110, 115, 32, 49, 32, 120, 41, 41, 41, 32, 40, 99, 111, 110, 115, 32, 37, 46, 49, 32, 37, 46, 50, 41, 41, 41])), (4, 1, SX.lit (AV.str [40, 40, 108, 101, 116, 32, 40, 40, 37, 46, 49, 32, 40, 43, 32, 120, 32, 49, 41, 41, 41, 32, 40, 102, 32, 37, 46, 49, 41, 41, 32, 120, 41])), (5, 1, SX.lit (AV.str [40, 108, 97, 109, 98, 100, 97, 32, 40, 121, 41, 32, 40, 108, 101, 116, 32, 40, 40, 37, 46, 49, 32, 40, 43, 32, 120, 32, 49, 41, 41, 41, 32, 40, 102, 32, 37, 46, 49, 41, 41, 41]))])), SOper.mk (some 9) none (SOp.p (POp.move (SX.tmp 51)))])
  (SCode.seq (SCode.ops [SOper.mk (some 52) none (SOp.p (POp.move (SX.tmp 0))), SOper.mk (some 53) none (SOp.p (POp.move (SX.tmp 8))), SOper.mk (some 54) none (SOp.p (POp.lenS (SX.tmp 53))), SOper.mk (some 55) none (SOp.call (SX.lit (AV.func 18 [])) [SX.tmp 52, SX.tmp 54]), SOper.mk (some 10) none (SOp.p (POp.move (SX.tmp 55)))])
  (SCode.seq (SCode.draw [SOper.mk (some 56) none (SOp.p (POp.move (SX.tmp 8))), SOper.mk (some 57) none (SOp.p (POp.move (SX.tmp 10))), SOper.mk (some 58) none (SOp.p (POp.iaddr 4 (SX.tmp 56) (SX.tmp 57))), SOper.mk (some 59) none (SOp.p (POp.loadn 4 (SX.tmp 58))), SOper.mk (some 62) none (SOp.p (POp.move (SX.tmp 9))), SOper.mk (some 63) none (SOp.p (POp.move (SX.tmp 10))), SOper.mk (some 64) none (SOp.p (POp.iaddr 1 (SX.tmp 62) (SX.tmp 63))), SOper.mk (some 65) none (SOp.p (POp.load1 (SX.tmp 64)))] [(SOper.mk (some 60) none (SOp.call (SX.lit (AV.func 16 [])) [SX.tmp 59]), [SOper.mk (some 65) none (SOp.p (POp.load1 (SX.tmp 64)))], []), (SOper.mk (some 61) none (SOp.call (SX.lit (AV.func 26 [])) [SX.tmp 60]), [SOper.mk (some 65) none (SOp.p (POp.load1 (SX.tmp 64)))], [SOper.mk (some 66) none (SOp.p (POp.bin BinOp.eql EqT.none (SX.tmp 61) (SX.tmp 65))), SOper.mk (some 2) none (SOp.p (POp.move (SX.tmp 66)))])])
  SCode.ret)))))))))), [ResV.tmp 2]⟩
theorem code7 (own : FuncId → Option (List AV → Heap → R)) (mode : FuncId → Nat) : (slimPrg Tryd.prog own mode).code 7 = some c7 := by kernel_rfl
-- thunk/thunklaw7.NormInside
def c8 : SFunc := ⟨84, (SCode.seq (SCode.ops [SOper.mk (some 4) none (SOp.p (POp.move (SX.lit (AV.bool false))))])
  (SCode.seq (SCode.seq (SCode.ops [SOper.mk (some 11) none (SOp.call (SX.lit (AV.func 10 [])) []), SOper.mk (some 12) none (SOp.p (POp.not (SX.tmp 11)))])
  (SCode.cond (SX.tmp 12)
  (SCode.seq (SCode.ops [SOper.mk (some 4) none (SOp.p (POp.move (SX.lit (AV.bool false))))])
  SCode.ret)
  SCode.skip))
  (SCode.seq (SCode.seq (SCode.ops [SOper.mk (some 13) none (SOp.p (POp.move (SX.tmp 0))), SOper.mk (some 14) none (SOp.call (SX.lit (AV.func 11 [])) [SX.tmp 13]), SOper.mk (some 15) none (SOp.p (POp.not (SX.tmp 14)))])
  (SCode.cond (SX.tmp 15)
  (SCode.seq (SCode.ops [SOper.mk (some 4) none (SOp.p (POp.move (SX.lit (AV.bool true))))])
  SCode.ret)
  SCode.skip))
  (SCode.seq (SCode.ops [SOper.mk (some 16) none (SOp.p (POp.move (SX.tmp 0))), SOper.mk (some 17) none (SOp.call (SX.lit (AV.func 12 [])) [SX.tmp 16]), SOper.mk (some 5) none (SOp.a (AOp.newc 28 [AV.int IntKind.i64 0, AV.str [], AV.nils, AV.nils])), SOper.mk none none (SOp.w (WOp.store 4 (SX.tmp 5) (SX.tmp 17)))])
  (SCode.seq (SCode.ops [SOper.mk (some 18) none (SOp.p (POp.loadn 4 (SX.tmp 5))), SOper.mk (some 19) none (SOp.call (SX.lit (AV.func 16 [])) [SX.tmp 18]), SOper.mk (some 6) none (SOp.a (AOp.newc 28 [AV.int IntKind.i64 0, AV.str [], AV.nils, AV.nils])), SOper.mk none none (SOp.w (WOp.store 4 (SX.tmp 6) (SX.tmp 19)))])
  (SCode.seq (SCode.ops [SOper.mk (some 20) none (SOp.p (POp.build [AV.int IntKind.i64 0, AV.str [], AV.nils, AV.nils] [(0, 1, SX.lit (AV.int IntKind.i64 2)), (1, 1, SX.lit (AV.str [35, 116]))])), SOper.mk (some 7) none (SOp.a (AOp.newc 28 [AV.int IntKind.i64 0, AV.str [], AV.nils, AV.nils])), SOper.mk none none (SOp.w (WOp.store 4 (SX.tmp 7) (SX.tmp 20)))])
  (SCode.seq (SCode.draw [SOper.mk (some 21) none (SOp.a (AOp.buildS [AV.str []] 1 [(0, 1, SX.lit (AV.str [117]))])), SOper.mk (some 22) none (SOp.p (POp.loadn 4 (SX.tmp 5))), SOper.mk (some 23) none (SOp.a (AOp.buildS [AV.int IntKind.i64 0, AV.str [], AV.nils, AV.nils] 1 [(0, 4, SX.tmp 22)])), SOper.mk (some 24) none (SOp.p (POp.build [AV.int IntKind.i64 0, AV.str [], AV.nils, AV.nils] [(0, 1, SX.lit (AV.int IntKind.i64 6)), (2, 1, SX.tmp 21), (3, 1, SX.tmp 23)])), SOper.mk (some 25) none (SOp.p (POp.loadn 4 (SX.tmp 5))), SOper.mk (some 26) none (SOp.p (POp.loadn 4 (SX.tmp 7))), SOper.mk (some 27) none (SOp.p (POp.loadn 4 (SX.tmp 7))), SOper.mk (some 28) none (SOp.a (AOp.buildS [AV.int IntKind.i64 0, AV.str [], AV.nils, AV.nils, AV.int IntKind.i64 0, AV.str [], AV.nils, AV.nils, AV.int IntKind.i64 0, AV.str [], AV.nils, AV.nils] 3 [(0, 4, SX.tmp 25), (4, 4, SX.tmp 26), (8, 4, SX.tmp 27)])), SOper.mk (some 29) none (SOp.p (POp.build [AV.int IntKind.i64 0, AV.str [], AV.nils, AV.nils] [(0, 1, SX.lit (AV.int IntKind.i64 8)), (3, 1, SX.tmp 28)])), SOper.mk (some 30) none (SOp.p (POp.loadn 4 (SX.tmp 5))), SOper.mk (some 31) none (SOp.a (AOp.buildS [AV.int IntKind.i64 0, AV.str [], AV.nils, AV.nils] 1 [(0, 4, SX.tmp 30)])), SOper.mk (some 32) none (SOp.p (POp.build [AV.int IntKind.i64 0, AV.str [], AV.nils, AV.nils] [(0, 1, SX.lit (AV.int IntKind.i64 10)), (1, 1, SX.lit (AV.str [110, 111, 116])), (3, 1, SX.tmp 31)])), SOper.mk (some 33) none (SOp.p (POp.loadn 4 (SX.tmp 5))), SOper.mk (some 34) none (SOp.p (POp.loadn 4 (SX.tmp 7))), SOper.mk (some 36) none (SOp.p (POp.loadn 4 (SX.tmp 5))), SOper.mk (some 37) none (SOp.p (POp.loadn 4 (SX.tmp 7))), SOper.mk (some 38) none (SOp.a (AOp.buildS [AV.int IntKind.i64 0, AV.str [], AV.nils, AV.nils, AV.int IntKind.i64 0, AV.str [], AV.nils, AV.nils] 2 [(0, 4, SX.tmp 36), (4, 4, SX.tmp 37)])), SOper.mk (some 39) none (SOp.p (POp.build [AV.int IntKind.i64 0, AV.str [], AV.nils, AV.nils] [(0, 1, SX.lit (AV.int IntKind.i64 7)), (3, 1, SX.tmp 38)]))] [(SOper.mk (some 35) none (SOp.call (SX.lit (AV.func 27 [])) [SX.lit (AV.str [117]), SX.tmp 33, SX.tmp 34]), [SOper.mk (some 22) none (SOp.p (POp.loadn 4 (SX.tmp 5))), SOper.mk (some 25) none (SOp.p (POp.loadn 4 (SX.tmp 5))), SOper.mk (some 26) none (SOp.p (POp.loadn 4 (SX.tmp 7))), SOper.mk (some 27) none (SOp.p (POp.loadn 4 (SX.tmp 7))), SOper.mk (some 30) none (SOp.p (POp.loadn 4 (SX.tmp 5))), SOper.mk (some 36) none (SOp.p (POp.loadn 4 (SX.tmp 5))), SOper.mk (some 37) none (SOp.p (POp.loadn 4 (SX.tmp 7)))], [SOper.mk (some 40) none (SOp.a (AOp.buildS [AV.int IntKind.i64 0, AV.str [], AV.nils, AV.nils, AV.int IntKind.i64 0, AV.str [], AV.nils, AV.nils, AV.int IntKind.i64 0, AV.str [], AV.nils, AV.nils, AV.int IntKind.i64 0, AV.str [], AV.nils, AV.nils, AV.int IntKind.i64 0, AV.str [], AV.nils, AV.nils] 5 [(0, 4, SX.tmp 24), (4, 4, SX.tmp 29), (8, 4, SX.tmp 32), (12, 4, SX.tmp 35), (16, 4, SX.tmp 39)])), SOper.mk (some 8) none (SOp.p (POp.move (SX.tmp 40)))])])
  (SCode.seq (SCode.ops [SOper.mk (some 41) none (SOp.p (POp.move (SX.tmp 1))), SOper.mk (some 42) none (SOp.p (POp.move (SX.tmp 8))), SOper.mk (some 43) none (SOp.p (POp.lenS (SX.tmp 42))), SOper.mk (some 44) none (SOp.call (SX.lit (AV.func 18 [])) [SX.tmp 41, SX.tmp 43]), SOper.mk (some 9) none (SOp.p (POp.move (SX.tmp 44)))])
  (SCode.seq (SCode.ops [SOper.mk (some 45) none (SOp.p (POp.move (SX.tmp 8))), SOper.mk (some 46) none (SOp.p (POp.move (SX.tmp 9))), SOper.mk (some 47) none (SOp.p (POp.iaddr 4 (SX.tmp 45) (SX.tmp 46))), SOper.mk (some 48) none (SOp.p (POp.loadn 4 (SX.tmp 47))), SOper.mk (some 49) none (SOp.call (SX.lit (AV.func 16 [])) [SX.tmp 48]), SOper.mk (some 10) none (SOp.a (AOp.newc 28 [AV.int IntKind.i64 0, AV.str [], AV.nils, AV.nils])), SOper.mk none none (SOp.w (WOp.store 4 (SX.tmp 10) (SX.tmp 49)))])
  (SCode.seq (SCode.draw [SOper.mk (some 50) none (SOp.p (POp.faddr 3 (SX.tmp 10))), SOper.mk (some 51) none (SOp.p (POp.load1 (SX.tmp 50))), SOper.mk (some 52) none (SOp.p (POp.lenS (SX.tmp 51))), SOper.mk (some 53) none (SOp.p (POp.bin BinOp.gtr EqT.none (SX.tmp 52) (SX.lit (AV.int IntKind.i64 0)))), SOper.mk (some 54) none (SOp.p (POp.move (SX.tmp 53))), SOper.mk (some 55) (some (54, true)) (SOp.p (POp.faddr 3 (SX.tmp 10))), SOper.mk (some 56) (some (54, true)) (SOp.p (POp.load1 (SX.tmp 55))), SOper.mk (some 57) (some (54, true)) (SOp.p (POp.iaddr 4 (SX.tmp 56) (SX.lit (AV.int IntKind.i64 0)))), SOper.mk (some 58) (some (54, true)) (SOp.p (POp.loadn 4 (SX.tmp 57))), SOper.mk (some 59) (some (54, true)) (SOp.p (POp.loadn 4 (SX.tmp 6)))] [(SOper.mk (some 60) (some (54, true)) (SOp.call (SX.lit (AV.func 15 [])) [SX.tmp 58, SX.tmp 59]), [], [SOper.mk (some 61) none (SOp.p (POp.pick (SX.tmp 54) (SX.tmp 60) (SX.lit (AV.bool false)))), SOper.mk (some 62) none (SOp.p (POp.move (SX.tmp 61))), SOper.mk (some 63) (some (62, true)) (SOp.p (POp.faddr 0 (SX.tmp 10))), SOper.mk (some 64) (some (62, true)) (SOp.p (POp.load1 (SX.tmp 63))), SOper.mk (some 65) (some (62, true)) (SOp.p (POp.move (SX.tmp 8))), SOper.mk (some 66) (some (62, true)) (SOp.p (POp.move (SX.tmp 9))), SOper.mk (some 67) (some (62, true)) (SOp.p (POp.iaddr 4 (SX.tmp 65) (SX.tmp 66))), SOper.mk (some 68) (some (62, true)) (SOp.p (POp.faddr 0 (SX.tmp 67))), SOper.mk (some 69) (some (62, true)) (SOp.p (POp.load1 (SX.tmp 68))), SOper.mk (some 70) (some (62, true)) (SOp.p (POp.bin BinOp.eql EqT.none (SX.tmp 64) (SX.tmp 69))), SOper.mk (some 71) none (SOp.p (POp.pick (SX.tmp 62) (SX.tmp 70) (SX.lit (AV.bool false)))), SOper.mk (some 72) none (SOp.p (POp.move (SX.tmp 71))), SOper.mk (some 73) (some (72, true)) (SOp.p (POp.faddr 3 (SX.tmp 10))), SOper.mk (some 74) (some (72, true)) (SOp.p (POp.load1 (SX.tmp 73))), SOper.mk (some 75) (some (72, true)) (SOp.p (POp.lenS (SX.tmp 74))), SOper.mk (some 76) (some (72, true)) (SOp.p (POp.move (SX.tmp 8))), SOper.mk (some 77) (some (72, true)) (SOp.p (POp.move (SX.tmp 9))), SOper.mk (some 78) (some (72, true)) (SOp.p (POp.iaddr 4 (SX.tmp 76) (SX.tmp 77))), SOper.mk (some 79) (some (72, true)) (SOp.p (POp.faddr 3 (SX.tmp 78))), SOper.mk (some 80) (some (72, true)) (SOp.p (POp.load1 (SX.tmp 79))), SOper.mk (some 81) (some (72, true)) (SOp.p (POp.lenS (SX.tmp 80))), SOper.mk (some 82) (some (72, true)) (SOp.p (POp.bin BinOp.eql EqT.none (SX.tmp 75) (SX.tmp 81))), SOper.mk (some 83) none (SOp.p (POp.pick (SX.tmp 72) (SX.tmp 82) (SX.lit (AV.bool false)))), SOper.mk (some 4) none (SOp.p (POp.move (SX.tmp 83)))])])
  SCode.ret)))))))))), [ResV.tmp 4]⟩
theorem code8 (own : FuncId → Option (List AV → Heap → R)) (mode : FuncId → Nat) : (slimPrg Tryd.prog own mode).code 8 = some c8 := by kernel_rfl
-- thunk/thunklaw7.NormArgs
def c9_l0 : SCode :=
  (SCode.seq (SCode.seq (SCode.ops [SOper.mk (some 22) none (SOp.p (POp.move (SX.tmp 10))), SOper.mk (some 23) none (SOp.p (POp.move (SX.tmp 6))), SOper.mk (some 24) none (SOp.p (POp.bin BinOp.lss EqT.none (SX.tmp 22) (SX.tmp 23)))])
  (SCode.cond (SX.tmp 24)
  SCode.skip
  (SCode.exit 0)))
  (SCode.seq (SCode.block 1 (SCode.seq (SCode.ops [SOper.mk (some 27) none (SOp.p (POp.move (SX.tmp 10))), SOper.mk (some 11) none (SOp.p (POp.move (SX.tmp 27)))])
  (SCode.seq (SCode.seq (SCode.ops [SOper.mk (some 28) none (SOp.p (POp.move (SX.tmp 10))), SOper.mk (some 29) none (SOp.p (POp.move (SX.tmp 0))), SOper.mk (some 30) none (SOp.p (POp.lenS (SX.tmp 29))), SOper.mk (some 31) none (SOp.p (POp.bin BinOp.lss EqT.none (SX.tmp 28) (SX.tmp 30)))])
  (SCode.cond (SX.tmp 31)
  (SCode.ops [SOper.mk (some 32) none (SOp.p (POp.move (SX.tmp 0))), SOper.mk (some 33) none (SOp.p (POp.move (SX.tmp 10))), SOper.mk (some 34) none (SOp.p (POp.iaddr 1 (SX.tmp 32) (SX.tmp 33))), SOper.mk (some 35) none (SOp.p (POp.load1 (SX.tmp 34))), SOper.mk (some 11) none (SOp.p (POp.move (SX.tmp 35)))])
  SCode.skip))
  (SCode.seq (SCode.ops [SOper.mk (some 36) none (SOp.p (POp.move (SX.tmp 11))), SOper.mk (some 37) none (SOp.call (SX.lit (AV.func 18 [])) [SX.tmp 36, SX.lit (AV.int IntKind.i64 2)]), SOper.mk (some 38) none (SOp.p (POp.bin BinOp.eql EqT.none (SX.tmp 37) (SX.lit (AV.int IntKind.i64 0))))])
  (SCode.cond (SX.tmp 38)
  (SCode.seq (SCode.ops [SOper.mk (some 39) none (SOp.p (POp.faddr 3 (SX.tmp 5))), SOper.mk (some 40) none (SOp.p (POp.load1 (SX.tmp 39))), SOper.mk (some 41) none (SOp.p (POp.loadn 4 (SX.tmp 7))), SOper.mk (some 42) none (SOp.a (AOp.buildS [AV.int IntKind.i64 0, AV.str [], AV.nils, AV.nils] 1 [(0, 4, SX.tmp 41)])), SOper.mk (some 43) none (SOp.w (WOp.append 28 4 72 (SX.tmp 40) (SX.tmp 42))), SOper.mk (some 44) none (SOp.p (POp.faddr 3 (SX.tmp 5))), SOper.mk none none (SOp.w (WOp.store 1 (SX.tmp 44) (SX.tmp 43)))])
  (SCode.ops [SOper.mk (some 45) none (SOp.p (POp.move (SX.tmp 9))), SOper.mk (some 46) none (SOp.a (AOp.buildS [AV.str []] 1 [(0, 1, SX.lit (AV.str [49]))])), SOper.mk (some 47) none (SOp.w (WOp.append 9 1 16 (SX.tmp 45) (SX.tmp 46))), SOper.mk (some 9) none (SOp.p (POp.move (SX.tmp 47)))]))
  (SCode.seq (SCode.ops [SOper.mk (some 48) none (SOp.p (POp.move (SX.tmp 8))), SOper.mk (some 49) none (SOp.p (POp.bin BinOp.add EqT.none (SX.tmp 48) (SX.lit (AV.int IntKind.i64 1)))), SOper.mk (some 8) none (SOp.p (POp.move (SX.tmp 49)))])
  (SCode.seq (SCode.ops [SOper.mk (some 50) none (SOp.p (POp.faddr 3 (SX.tmp 5))), SOper.mk (some 51) none (SOp.p (POp.load1 (SX.tmp 50))), SOper.mk (some 52) none (SOp.p (POp.loadn 4 (SX.tmp 7))), SOper.mk (some 53) none (SOp.a (AOp.buildS [AV.int IntKind.i64 0, AV.str [], AV.nils, AV.nils] 1 [(0, 4, SX.tmp 52)])), SOper.mk (some 54) none (SOp.p (POp.build [AV.int IntKind.i64 0, AV.str [], AV.nils, AV.nils] [(0, 1, SX.lit (AV.int IntKind.i64 10)), (1, 1, SX.lit (AV.str [110, 111, 116])), (3, 1, SX.tmp 53)])), SOper.mk (some 55) none (SOp.a (AOp.buildS [AV.int IntKind.i64 0, AV.str [], AV.nils, AV.nils] 1 [(0, 4, SX.tmp 54)])), SOper.mk (some 56) none (SOp.w (WOp.append 28 4 72 (SX.tmp 51) (SX.tmp 55))), SOper.mk (some 57) none (SOp.p (POp.faddr 3 (SX.tmp 5))), SOper.mk none none (SOp.w (WOp.store 1 (SX.tmp 57) (SX.tmp 56)))])
  (SCode.ops [SOper.mk (some 58) none (SOp.p (POp.move (SX.tmp 9))), SOper.mk (some 59) none (SOp.p (POp.move (SX.tmp 8))), SOper.mk (some 60) none (SOp.p (POp.bin BinOp.add EqT.none (SX.lit (AV.int IntKind.i64 48)) (SX.tmp 59))), SOper.mk (some 61) none (SOp.p (POp.toInt IntKind.u8 (SX.tmp 60))), SOper.mk (some 62) none (SOp.a (AOp.buildS [AV.int IntKind.u8 0] 1 [(0, 1, SX.tmp 61)])), SOper.mk (some 63) none (SOp.p (POp.bytesStr (SX.tmp 62))), SOper.mk (some 64) none (SOp.p (POp.bin BinOp.add EqT.none (SX.lit (AV.str [37, 46])) (SX.tmp 63))), SOper.mk (some 65) none (SOp.a (AOp.buildS [AV.str []] 1 [(0, 1, SX.tmp 64)])), SOper.mk (some 66) none (SOp.w (WOp.append 9 1 16 (SX.tmp 58) (SX.tmp 65))), SOper.mk (some 9) none (SOp.p (POp.move (SX.tmp 66)))]))))))))
  (SCode.ops [SOper.mk (some 25) none (SOp.p (POp.move (SX.tmp 10))), SOper.mk (some 26) none (SOp.p (POp.bin BinOp.add EqT.none (SX.tmp 25) (SX.lit (AV.int IntKind.i64 1)))), SOper.mk (some 10) none (SOp.p (POp.move (SX.tmp 26)))])))
def c9_l1 : SCode :=
  (SCode.seq (SCode.seq (SCode.ops [SOper.mk (some 69) none (SOp.p (POp.move (SX.tmp 13))), SOper.mk (some 70) none (SOp.p (POp.move (SX.tmp 8))), SOper.mk (some 71) none (SOp.p (POp.bin BinOp.leq EqT.none (SX.tmp 69) (SX.tmp 70)))])
  (SCode.cond (SX.tmp 71)
  SCode.skip
  (SCode.exit 2)))
  (SCode.seq (SCode.block 3 (SCode.seq (SCode.seq (SCode.draw [SOper.mk (some 74) none (SOp.p (POp.faddr 0 (SX.tmp 12))), SOper.mk (some 75) none (SOp.p (POp.load1 (SX.tmp 74))), SOper.mk (some 76) none (SOp.p (POp.bin BinOp.neq EqT.none (SX.tmp 75) (SX.lit (AV.int IntKind.i64 9)))), SOper.mk (some 77) none (SOp.p (POp.move (SX.tmp 76))), SOper.mk (some 78) (some (77, false)) (SOp.p (POp.faddr 2 (SX.tmp 12))), SOper.mk (some 79) (some (77, false)) (SOp.p (POp.load1 (SX.tmp 78))), SOper.mk (some 80) (some (77, false)) (SOp.p (POp.lenS (SX.tmp 79))), SOper.mk (some 81) (some (77, false)) (SOp.p (POp.bin BinOp.neq EqT.none (SX.tmp 80) (SX.lit (AV.int IntKind.i64 1)))), SOper.mk (some 82) none (SOp.p (POp.pick (SX.tmp 77) (SX.lit (AV.bool true)) (SX.tmp 81))), SOper.mk (some 83) none (SOp.p (POp.move (SX.tmp 82))), SOper.mk (some 84) (some (83, false)) (SOp.p (POp.faddr 2 (SX.tmp 12))), SOper.mk (some 85) (some (83, false)) (SOp.p (POp.load1 (SX.tmp 84))), SOper.mk (some 86) (some (83, false)) (SOp.p (POp.iaddr 1 (SX.tmp 85) (SX.lit (AV.int IntKind.i64 0)))), SOper.mk (some 87) (some (83, false)) (SOp.p (POp.load1 (SX.tmp 86))), SOper.mk (some 88) (some (83, false)) (SOp.p (POp.move (SX.tmp 13))), SOper.mk (some 89) (some (83, false)) (SOp.p (POp.bin BinOp.add EqT.none (SX.lit (AV.int IntKind.i64 48)) (SX.tmp 88))), SOper.mk (some 90) (some (83, false)) (SOp.p (POp.toInt IntKind.u8 (SX.tmp 89))), SOper.mk (some 91) (some (83, false)) (SOp.a (AOp.buildS [AV.int IntKind.u8 0] 1 [(0, 1, SX.tmp 90)])), SOper.mk (some 92) (some (83, false)) (SOp.p (POp.bytesStr (SX.tmp 91))), SOper.mk (some 93) (some (83, false)) (SOp.p (POp.bin BinOp.add EqT.none (SX.lit (AV.str [37, 46])) (SX.tmp 92))), SOper.mk (some 94) (some (83, false)) (SOp.p (POp.bin BinOp.neq EqT.none (SX.tmp 87) (SX.tmp 93))), SOper.mk (some 95) none (SOp.p (POp.pick (SX.tmp 83) (SX.lit (AV.bool true)) (SX.tmp 94))), SOper.mk (some 96) none (SOp.p (POp.move (SX.tmp 95))), SOper.mk (some 97) (some (96, false)) (SOp.p (POp.faddr 3 (SX.tmp 12))), SOper.mk (some 98) (some (96, false)) (SOp.p (POp.load1 (SX.tmp 97))), SOper.mk (some 99) (some (96, false)) (SOp.p (POp.lenS (SX.tmp 98))), SOper.mk (some 100) (some (96, false)) (SOp.p (POp.bin BinOp.neq EqT.none (SX.tmp 99) (SX.lit (AV.int IntKind.i64 2)))), SOper.mk (some 101) none (SOp.p (POp.pick (SX.tmp 96) (SX.lit (AV.bool true)) (SX.tmp 100)))] [])
  (SCode.cond (SX.tmp 101)
  (SCode.seq (SCode.ops [SOper.mk (some 4) none (SOp.p (POp.move (SX.lit (AV.bool false))))])
  SCode.ret)
  SCode.skip))
  (SCode.ops [SOper.mk (some 102) none (SOp.p (POp.faddr 3 (SX.tmp 12))), SOper.mk (some 103) none (SOp.p (POp.load1 (SX.tmp 102))), SOper.mk (some 104) none (SOp.p (POp.iaddr 4 (SX.tmp 103) (SX.lit (AV.int IntKind.i64 1)))), SOper.mk (some 105) none (SOp.p (POp.loadn 4 (SX.tmp 104))), SOper.mk none none (SOp.w (WOp.store 4 (SX.tmp 12) (SX.tmp 105)))])))
  (SCode.ops [SOper.mk (some 72) none (SOp.p (POp.move (SX.tmp 13))), SOper.mk (some 73) none (SOp.p (POp.bin BinOp.add EqT.none (SX.tmp 72) (SX.lit (AV.int IntKind.i64 1)))), SOper.mk (some 13) none (SOp.p (POp.move (SX.tmp 73)))])))
def c9 : SFunc := ⟨121, (SCode.seq (SCode.ops [SOper.mk (some 4) none (SOp.p (POp.move (SX.lit (AV.bool false))))])
  (SCode.seq (SCode.seq (SCode.ops [SOper.mk (some 14) none (SOp.call (SX.lit (AV.func 10 [])) []), SOper.mk (some 15) none (SOp.p (POp.not (SX.tmp 14)))])
  (SCode.cond (SX.tmp 15)
  (SCode.seq (SCode.ops [SOper.mk (some 4) none (SOp.p (POp.move (SX.lit (AV.bool false))))])
  SCode.ret)
  SCode.skip))
  (SCode.seq (SCode.ops [SOper.mk (some 16) none (SOp.call (SX.lit (AV.func 25 [])) [SX.lit (AV.str [102])]), SOper.mk (some 17) none (SOp.a (AOp.buildS [AV.int IntKind.i64 0, AV.str [], AV.nils, AV.nils] 1 [(0, 4, SX.tmp 16)])), SOper.mk (some 18) none (SOp.p (POp.build [AV.int IntKind.i64 0, AV.str [], AV.nils, AV.nils] [(0, 1, SX.lit (AV.int IntKind.i64 7)), (3, 1, SX.tmp 17)])), SOper.mk (some 5) none (SOp.a (AOp.newc 28 [AV.int IntKind.i64 0, AV.str [], AV.nils, AV.nils])), SOper.mk none none (SOp.w (WOp.store 4 (SX.tmp 5) (SX.tmp 18)))])
  (SCode.seq (SCode.ops [SOper.mk (some 6) none (SOp.p (POp.move (SX.lit (AV.int IntKind.i64 6))))])
  (SCode.seq (SCode.seq (SCode.ops [SOper.mk (some 19) none (SOp.p (POp.move (SX.tmp 1)))])
  (SCode.cond (SX.tmp 19)
  (SCode.ops [SOper.mk (some 20) none (SOp.p (POp.build [AV.int IntKind.i64 0, AV.str [], AV.nils, AV.nils] [(0, 1, SX.lit (AV.int IntKind.i64 10)), (1, 1, SX.lit (AV.str [99, 111, 110, 115]))])), SOper.mk none none (SOp.w (WOp.store 4 (SX.tmp 5) (SX.tmp 20))), SOper.mk (some 6) none (SOp.p (POp.move (SX.lit (AV.int IntKind.i64 2))))])
  SCode.skip))
  (SCode.seq (SCode.ops [SOper.mk (some 21) none (SOp.p (POp.build [AV.int IntKind.i64 0, AV.str [], AV.nils, AV.nils] [(0, 1, SX.lit (AV.int IntKind.i64 1)), (1, 1, SX.lit (AV.str [49]))])), SOper.mk (some 7) none (SOp.a (AOp.newc 28 [AV.int IntKind.i64 0, AV.str [], AV.nils, AV.nils])), SOper.mk none none (SOp.w (WOp.store 4 (SX.tmp 7) (SX.tmp 21)))])
  (SCode.seq (SCode.ops [SOper.mk (some 8) none (SOp.p (POp.move (SX.lit (AV.int IntKind.i64 0))))])
  (SCode.seq (SCode.ops [SOper.mk (some 9) none (SOp.p (POp.move (SX.lit AV.nils)))])
  (SCode.seq (SCode.seq (SCode.ops [SOper.mk (some 10) none (SOp.p (POp.move (SX.lit (AV.int IntKind.i64 0))))])
  (SCode.block 0 (SCode.loop c9_l0)))
  (SCode.seq (SCode.ops [SOper.mk (some 67) none (SOp.p (POp.loadn 4 (SX.tmp 5))), SOper.mk (some 68) none (SOp.call (SX.lit (AV.func 16 [])) [SX.tmp 67]), SOper.mk (some 12) none (SOp.a (AOp.newc 28 [AV.int IntKind.i64 0, AV.str [], AV.nils, AV.nils])), SOper.mk none none (SOp.w (WOp.store 4 (SX.tmp 12) (SX.tmp 68)))])
  (SCode.seq (SCode.seq (SCode.ops [SOper.mk (some 13) none (SOp.p (POp.move (SX.lit (AV.int IntKind.i64 1))))])
  (SCode.block 2 (SCode.loop c9_l1)))
  (SCode.seq (SCode.seq (SCode.ops [SOper.mk (some 106) none (SOp.p (POp.move (SX.tmp 1)))])
  (SCode.cond (SX.tmp 106)
  (SCode.seq (SCode.ops [SOper.mk (some 107) none (SOp.p (POp.loadn 4 (SX.tmp 12))), SOper.mk (some 108) none (SOp.call (SX.lit (AV.func 26 [])) [SX.tmp 107]), SOper.mk (some 109) none (SOp.p (POp.move (SX.tmp 9))), SOper.mk (some 110) none (SOp.call (SX.lit (AV.func 28 [])) [SX.tmp 109]), SOper.mk (some 111) none (SOp.p (POp.bin BinOp.add EqT.none (SX.lit (AV.str [40, 99, 111, 110, 115, 32])) (SX.tmp 110))), SOper.mk (some 112) none (SOp.p (POp.bin BinOp.add EqT.none (SX.tmp 111) (SX.lit (AV.str [41])))), SOper.mk (some 113) none (SOp.p (POp.bin BinOp.eql EqT.none (SX.tmp 108) (SX.tmp 112))), SOper.mk (some 4) none (SOp.p (POp.move (SX.tmp 113)))])
  SCode.ret)
  SCode.skip))
  (SCode.seq (SCode.ops [SOper.mk (some 114) none (SOp.p (POp.loadn 4 (SX.tmp 12))), SOper.mk (some 115) none (SOp.call (SX.lit (AV.func 26 [])) [SX.tmp 114]), SOper.mk (some 116) none (SOp.p (POp.move (SX.tmp 9))), SOper.mk (some 117) none (SOp.call (SX.lit (AV.func 28 [])) [SX.tmp 116]), SOper.mk (some 118) none (SOp.p (POp.bin BinOp.add EqT.none (SX.lit (AV.str [40, 102, 32])) (SX.tmp 117))), SOper.mk (some 119) none (SOp.p (POp.bin BinOp.add EqT.none (SX.tmp 118) (SX.lit (AV.str [41])))), SOper.mk (some 120) none (SOp.p (POp.bin BinOp.eql EqT.none (SX.tmp 115) (SX.tmp 119))), SOper.mk (some 4) none (SOp.p (POp.move (SX.tmp 120)))])
  SCode.ret))))))))))))), [ResV.tmp 4]⟩
theorem code9 (own : FuncId → Option (List AV → Heap → R)) (mode : FuncId → Nat) : (slimPrg Tryd.prog own mode).code 9 = some c9 := by kernel_rfl
-- thunk/thunklaw7.known
def c10 : SFunc := ⟨45, (SCode.seq (SCode.ops [SOper.mk (some 0) none (SOp.p (POp.move (SX.lit (AV.bool false))))])
  (SCode.seq (SCode.ops [SOper.mk (some 4) none (SOp.p (POp.build [AV.int IntKind.i64 0, AV.str [], AV.nils, AV.nils] [(0, 1, SX.lit (AV.int IntKind.i64 1)), (1, 1, SX.lit (AV.str [53]))])), SOper.mk (some 1) none (SOp.a (AOp.newc 28 [AV.int IntKind.i64 0, AV.str [], AV.nils, AV.nils])), SOper.mk none none (SOp.w (WOp.store 4 (SX.tmp 1) (SX.tmp 4)))])
  (SCode.seq (SCode.ops [SOper.mk (some 5) none (SOp.p (POp.loadn 4 (SX.tmp 1))), SOper.mk (some 6) none (SOp.p (POp.loadn 4 (SX.tmp 1))), SOper.mk (some 7) none (SOp.a (AOp.buildS [AV.int IntKind.i64 0, AV.str [], AV.nils, AV.nils, AV.int IntKind.i64 0, AV.str [], AV.nils, AV.nils] 2 [(0, 4, SX.tmp 5), (4, 4, SX.tmp 6)])), SOper.mk (some 8) none (SOp.p (POp.build [AV.int IntKind.i64 0, AV.str [], AV.nils, AV.nils] [(0, 1, SX.lit (AV.int IntKind.i64 10)), (1, 1, SX.lit (AV.str [43])), (3, 1, SX.tmp 7)])), SOper.mk (some 9) none (SOp.p (POp.loadn 4 (SX.tmp 1))), SOper.mk (some 10) none (SOp.a (AOp.buildS [AV.int IntKind.i64 0, AV.str [], AV.nils, AV.nils, AV.int IntKind.i64 0, AV.str [], AV.nils, AV.nils] 2 [(0, 4, SX.tmp 8), (4, 4, SX.tmp 9)])), SOper.mk (some 11) none (SOp.p (POp.build [AV.int IntKind.i64 0, AV.str [], AV.nils, AV.nils] [(0, 1, SX.lit (AV.int IntKind.i64 10)), (1, 1, SX.lit (AV.str [99, 111, 110, 115])), (3, 1, SX.tmp 10)])), SOper.mk (some 2) none (SOp.a (AOp.newc 28 [AV.int IntKind.i64 0, AV.str [], AV.nils, AV.nils])), SOper.mk none none (SOp.w (WOp.store 4 (SX.tmp 2) (SX.tmp 11)))])
  (SCode.seq (SCode.ops [SOper.mk (some 12) none (SOp.p (POp.loadn 4 (SX.tmp 2))), SOper.mk (some 13) none (SOp.call (SX.lit (AV.func 16 [])) [SX.tmp 12]), SOper.mk (some 3) none (SOp.a (AOp.newc 28 [AV.int IntKind.i64 0, AV.str [], AV.nils, AV.nils])), SOper.mk none none (SOp.w (WOp.store 4 (SX.tmp 3) (SX.tmp 13)))])
  (SCode.seq (SCode.draw [SOper.mk (some 14) none (SOp.p (POp.loadn 4 (SX.tmp 1))), SOper.mk (some 16) none (SOp.p (POp.loadn 4 (SX.tmp 1)))] [(SOper.mk (some 15) none (SOp.call (SX.lit (AV.func 16 [])) [SX.tmp 14]), [SOper.mk (some 16) none (SOp.p (POp.loadn 4 (SX.tmp 1)))], []), (SOper.mk (some 17) none (SOp.call (SX.lit (AV.func 15 [])) [SX.tmp 15, SX.tmp 16]), [], [SOper.mk (some 18) none (SOp.p (POp.move (SX.tmp 17))), SOper.mk (some 19) (some (18, true)) (SOp.p (POp.loadn 4 (SX.tmp 1)))]), (SOper.mk (some 20) (some (18, true)) (SOp.call (SX.lit (AV.func 13 [])) [SX.tmp 19]), [], [SOper.mk (some 21) none (SOp.p (POp.pick (SX.tmp 18) (SX.tmp 20) (SX.lit (AV.bool false)))), SOper.mk (some 22) none (SOp.p (POp.move (SX.tmp 21))), SOper.mk (some 23) (some (22, true)) (SOp.p (POp.loadn 4 (SX.tmp 2)))]), (SOper.mk (some 24) (some (22, true)) (SOp.call (SX.lit (AV.func 13 [])) [SX.tmp 23]), [], [SOper.mk (some 25) (some (22, true)) (SOp.p (POp.not (SX.tmp 24))), SOper.mk (some 26) none (SOp.p (POp.pick (SX.tmp 22) (SX.tmp 25) (SX.lit (AV.bool false)))), SOper.mk (some 27) none (SOp.p (POp.move (SX.tmp 26))), SOper.mk (some 28) (some (27, true)) (SOp.p (POp.faddr 0 (SX.tmp 3))), SOper.mk (some 29) (some (27, true)) (SOp.p (POp.load1 (SX.tmp 28))), SOper.mk (some 30) (some (27, true)) (SOp.p (POp.bin BinOp.eql EqT.none (SX.tmp 29) (SX.lit (AV.int IntKind.i64 9)))), SOper.mk (some 31) none (SOp.p (POp.pick (SX.tmp 27) (SX.tmp 30) (SX.lit (AV.bool false)))), SOper.mk (some 32) none (SOp.p (POp.move (SX.tmp 31))), SOper.mk (some 33) (some (32, true)) (SOp.p (POp.faddr 2 (SX.tmp 3))), SOper.mk (some 34) (some (32, true)) (SOp.p (POp.load1 (SX.tmp 33))), SOper.mk (some 35) (some (32, true)) (SOp.p (POp.lenS (SX.tmp 34))), SOper.mk (some 36) (some (32, true)) (SOp.p (POp.bin BinOp.eql EqT.none (SX.tmp 35) (SX.lit (AV.int IntKind.i64 1)))), SOper.mk (some 37) none (SOp.p (POp.pick (SX.tmp 32) (SX.tmp 36) (SX.lit (AV.bool false)))), SOper.mk (some 38) none (SOp.p (POp.move (SX.tmp 37))), SOper.mk (some 39) (some (38, true)) (SOp.p (POp.faddr 2 (SX.tmp 3))), SOper.mk (some 40) (some (38, true)) (SOp.p (POp.load1 (SX.tmp 39))), SOper.mk (some 41) (some (38, true)) (SOp.p (POp.iaddr 1 (SX.tmp 40) (SX.lit (AV.int IntKind.i64 0)))), SOper.mk (some 42) (some (38, true)) (SOp.p (POp.load1 (SX.tmp 41))), SOper.mk (some 43) (some (38, true)) (SOp.p (POp.bin BinOp.eql EqT.none (SX.tmp 42) (SX.lit (AV.str [37, 46, 49])))), SOper.mk (some 44) none (SOp.p (POp.pick (SX.tmp 38) (SX.tmp 43) (SX.lit (AV.bool false)))), SOper.mk (some 0) none (SOp.p (POp.move (SX.tmp 44)))])])
  SCode.ret))))), [ResV.tmp 0]⟩
theorem code10 (own : FuncId → Option (List AV → Heap → R)) (mode : FuncId → Nat) : (slimPrg Tryd.prog own mode).code 10 = some c10 := by kernel_rfl
-- thunk/thunklaw5.Few
def c11 : SFunc := ⟨6, (SCode.seq (SCode.ops [SOper.mk (some 2) none (SOp.p (POp.move (SX.lit (AV.bool false))))])
  (SCode.seq (SCode.ops [SOper.mk (some 3) none (SOp.p (POp.move (SX.tmp 0))), SOper.mk (some 4) none (SOp.call (SX.lit (AV.func 29 [])) [SX.tmp 3, SX.lit (AV.int IntKind.i64 0)]), SOper.mk (some 5) none (SOp.p (POp.bin BinOp.leq EqT.none (SX.tmp 4) (SX.lit (AV.int IntKind.i64 40)))), SOper.mk (some 2) none (SOp.p (POp.move (SX.tmp 5)))])
  SCode.ret)), [ResV.tmp 2]⟩
theorem code11 (own : FuncId → Option (List AV → Heap → R)) (mode : FuncId → Nat) : (slimPrg Tryd.prog own mode).code 11 = some c11 := by kernel_rfl
-- thunk/thunklaw5.Term
def c12_l0 : SCode :=
  (SCode.seq (SCode.seq (SCode.ops [SOper.mk (some 22) none (SOp.p (POp.move (SX.tmp 5))), SOper.mk (some 23) none (SOp.p (POp.move (SX.tmp 0))), SOper.mk (some 24) none (SOp.p (POp.lenS (SX.tmp 23))), SOper.mk (some 25) none (SOp.p (POp.bin BinOp.lss EqT.none (SX.tmp 22) (SX.tmp 24))), SOper.mk (some 26) none (SOp.p (POp.move (SX.tmp 25))), SOper.mk (some 27) (some (26, true)) (SOp.p (POp.move (SX.tmp 5))), SOper.mk (some 28) (some (26, true)) (SOp.p (POp.bin BinOp.lss EqT.none (SX.tmp 27) (SX.lit (AV.int IntKind.i64 5)))), SOper.mk (some 29) none (SOp.p (POp.pick (SX.tmp 26) (SX.tmp 28) (SX.lit (AV.bool false))))])
  (SCode.cond (SX.tmp 29)
  SCode.skip
  (SCode.exit 0)))
  (SCode.seq (SCode.block 1 (SCode.draw [SOper.mk (some 32) none (SOp.p (POp.faddr 2 (SX.tmp 4))), SOper.mk (some 33) none (SOp.p (POp.load1 (SX.tmp 32))), SOper.mk (some 34) none (SOp.p (POp.move (SX.tmp 3)))] [(SOper.mk (some 35) none (SOp.call (SX.lit (AV.func 31 [])) [SX.tmp 34]), [SOper.mk (some 33) none (SOp.p (POp.load1 (SX.tmp 32)))], [SOper.mk (some 36) none (SOp.a (AOp.buildS [AV.str []] 1 [(0, 1, SX.tmp 35)]))]), (SOper.mk (some 37) none (SOp.w (WOp.append 9 1 16 (SX.tmp 33) (SX.tmp 36))), [], [SOper.mk (some 38) none (SOp.p (POp.faddr 2 (SX.tmp 4)))]), (SOper.mk none none (SOp.w (WOp.store 1 (SX.tmp 38) (SX.tmp 37))), [], [])]))
  (SCode.ops [SOper.mk (some 30) none (SOp.p (POp.move (SX.tmp 5))), SOper.mk (some 31) none (SOp.p (POp.bin BinOp.add EqT.none (SX.tmp 30) (SX.lit (AV.int IntKind.i64 1)))), SOper.mk (some 5) none (SOp.p (POp.move (SX.tmp 31)))])))
def c12_l1 : SCode :=
  (SCode.seq (SCode.seq (SCode.ops [SOper.mk (some 39) none (SOp.p (POp.move (SX.tmp 6))), SOper.mk (some 40) none (SOp.p (POp.move (SX.tmp 0))), SOper.mk (some 41) none (SOp.p (POp.lenS (SX.tmp 40))), SOper.mk (some 42) none (SOp.p (POp.bin BinOp.lss EqT.none (SX.tmp 39) (SX.tmp 41))), SOper.mk (some 43) none (SOp.p (POp.move (SX.tmp 42))), SOper.mk (some 44) (some (43, true)) (SOp.p (POp.move (SX.tmp 6))), SOper.mk (some 45) (some (43, true)) (SOp.p (POp.bin BinOp.lss EqT.none (SX.tmp 44) (SX.lit (AV.int IntKind.i64 5)))), SOper.mk (some 46) none (SOp.p (POp.pick (SX.tmp 43) (SX.tmp 45) (SX.lit (AV.bool false))))])
  (SCode.cond (SX.tmp 46)
  SCode.skip
  (SCode.exit 2)))
  (SCode.seq (SCode.block 3 (SCode.draw [SOper.mk (some 49) none (SOp.p (POp.faddr 3 (SX.tmp 4))), SOper.mk (some 50) none (SOp.p (POp.load1 (SX.tmp 49))), SOper.mk (some 51) none (SOp.p (POp.move (SX.tmp 3))), SOper.mk (some 52) none (SOp.p (POp.move (SX.tmp 0))), SOper.mk (some 53) none (SOp.p (POp.move (SX.tmp 6))), SOper.mk (some 54) none (SOp.p (POp.iaddr 3 (SX.tmp 52) (SX.tmp 53))), SOper.mk (some 55) none (SOp.p (POp.loadn 3 (SX.tmp 54))), SOper.mk (some 56) none (SOp.p (POp.faddr 2 (SX.tmp 4))), SOper.mk (some 57) none (SOp.p (POp.load1 (SX.tmp 56)))] [(SOper.mk (some 58) none (SOp.call (SX.lit (AV.func 30 [])) [SX.tmp 51, SX.tmp 55, SX.tmp 57]), [SOper.mk (some 50) none (SOp.p (POp.load1 (SX.tmp 49)))], [SOper.mk (some 59) none (SOp.a (AOp.buildS [AV.int IntKind.i64 0, AV.str [], AV.nils, AV.nils] 1 [(0, 4, SX.tmp 58)]))]), (SOper.mk (some 60) none (SOp.w (WOp.append 28 4 72 (SX.tmp 50) (SX.tmp 59))), [], [SOper.mk (some 61) none (SOp.p (POp.faddr 3 (SX.tmp 4)))]), (SOper.mk none none (SOp.w (WOp.store 1 (SX.tmp 61) (SX.tmp 60))), [], [])]))
  (SCode.ops [SOper.mk (some 47) none (SOp.p (POp.move (SX.tmp 6))), SOper.mk (some 48) none (SOp.p (POp.bin BinOp.add EqT.none (SX.tmp 47) (SX.lit (AV.int IntKind.i64 1)))), SOper.mk (some 6) none (SOp.p (POp.move (SX.tmp 48)))])))
def c12 : SFunc := ⟨75, (SCode.seq (SCode.ops [SOper.mk (some 2) none (SOp.a (AOp.newc 28 [AV.int IntKind.i64 0, AV.str [], AV.nils, AV.nils]))])
  (SCode.seq (SCode.ops [SOper.mk (some 7) none (SOp.p (POp.build [AV.int IntKind.i64 0] [])), SOper.mk (some 8) none (SOp.a (AOp.box 50 (SX.tmp 7))), SOper.mk (some 3) none (SOp.p (POp.move (SX.tmp 8)))])
  (SCode.seq (SCode.seq (SCode.ops [SOper.mk (some 9) none (SOp.p (POp.move (SX.tmp 0))), SOper.mk (some 10) none (SOp.p (POp.lenS (SX.tmp 9))), SOper.mk (some 11) none (SOp.p (POp.bin BinOp.eql EqT.none (SX.tmp 10) (SX.lit (AV.int IntKind.i64 0))))])
  (SCode.cond (SX.tmp 11)
  (SCode.seq (SCode.ops [SOper.mk (some 12) none (SOp.p (POp.build [AV.int IntKind.i64 0, AV.str [], AV.nils, AV.nils] [(0, 1, SX.lit (AV.int IntKind.i64 1)), (1, 1, SX.lit (AV.str [53]))])), SOper.mk none none (SOp.w (WOp.store 4 (SX.tmp 2) (SX.tmp 12)))])
  SCode.ret)
  SCode.skip))
  (SCode.seq (SCode.seq (SCode.ops [SOper.mk (some 13) none (SOp.p (POp.move (SX.tmp 0))), SOper.mk (some 14) none (SOp.p (POp.lenS (SX.tmp 13))), SOper.mk (some 15) none (SOp.p (POp.bin BinOp.eql EqT.none (SX.tmp 14) (SX.lit (AV.int IntKind.i64 1))))])
  (SCode.cond (SX.tmp 15)
  (SCode.seq (SCode.ops [SOper.mk (some 16) none (SOp.p (POp.move (SX.tmp 3))), SOper.mk (some 17) none (SOp.p (POp.move (SX.tmp 0))), SOper.mk (some 18) none (SOp.p (POp.iaddr 3 (SX.tmp 17) (SX.lit (AV.int IntKind.i64 0)))), SOper.mk (some 19) none (SOp.p (POp.loadn 3 (SX.tmp 18))), SOper.mk (some 20) none (SOp.call (SX.lit (AV.func 30 [])) [SX.tmp 16, SX.tmp 19, SX.lit AV.nils]), SOper.mk none none (SOp.w (WOp.store 4 (SX.tmp 2) (SX.tmp 20)))])
  SCode.ret)
  SCode.skip))
  (SCode.seq (SCode.ops [SOper.mk (some 21) none (SOp.p (POp.build [AV.int IntKind.i64 0, AV.str [], AV.nils, AV.nils] [(0, 1, SX.lit (AV.int IntKind.i64 9))])), SOper.mk (some 4) none (SOp.a (AOp.newc 28 [AV.int IntKind.i64 0, AV.str [], AV.nils, AV.nils])), SOper.mk none none (SOp.w (WOp.store 4 (SX.tmp 4) (SX.tmp 21)))])
  (SCode.seq (SCode.seq (SCode.ops [SOper.mk (some 5) none (SOp.p (POp.move (SX.lit (AV.int IntKind.i64 1))))])
  (SCode.block 0 (SCode.loop c12_l0)))
  (SCode.seq (SCode.seq (SCode.ops [SOper.mk (some 6) none (SOp.p (POp.move (SX.lit (AV.int IntKind.i64 1))))])
  (SCode.block 2 (SCode.loop c12_l1)))
  (SCode.seq (SCode.draw [SOper.mk (some 62) none (SOp.p (POp.faddr 3 (SX.tmp 4))), SOper.mk (some 63) none (SOp.p (POp.load1 (SX.tmp 62))), SOper.mk (some 64) none (SOp.p (POp.move (SX.tmp 3))), SOper.mk (some 65) none (SOp.p (POp.move (SX.tmp 0))), SOper.mk (some 66) none (SOp.p (POp.iaddr 3 (SX.tmp 65) (SX.lit (AV.int IntKind.i64 0)))), SOper.mk (some 67) none (SOp.p (POp.loadn 3 (SX.tmp 66))), SOper.mk (some 68) none (SOp.p (POp.faddr 2 (SX.tmp 4))), SOper.mk (some 69) none (SOp.p (POp.load1 (SX.tmp 68)))] [(SOper.mk (some 70) none (SOp.call (SX.lit (AV.func 30 [])) [SX.tmp 64, SX.tmp 67, SX.tmp 69]), [SOper.mk (some 63) none (SOp.p (POp.load1 (SX.tmp 62)))], [SOper.mk (some 71) none (SOp.a (AOp.buildS [AV.int IntKind.i64 0, AV.str [], AV.nils, AV.nils] 1 [(0, 4, SX.tmp 70)]))]), (SOper.mk (some 72) none (SOp.w (WOp.append 28 4 72 (SX.tmp 63) (SX.tmp 71))), [], [SOper.mk (some 73) none (SOp.p (POp.faddr 3 (SX.tmp 4)))]), (SOper.mk none none (SOp.w (WOp.store 1 (SX.tmp 73) (SX.tmp 72))), [], [])])
  (SCode.seq (SCode.ops [SOper.mk (some 74) none (SOp.p (POp.loadn 4 (SX.tmp 4))), SOper.mk none none (SOp.w (WOp.store 4 (SX.tmp 2) (SX.tmp 74)))])
  SCode.ret))))))))), [ResV.celln 2 4]⟩
theorem code12 (own : FuncId → Option (List AV → Heap → R)) (mode : FuncId → Nat) : (slimPrg Tryd.prog own mode).code 12 = some c12 := by kernel_rfl
-- thunk/norm.Is
def c13 : SFunc := ⟨14, (SCode.seq (SCode.ops [SOper.mk (some 1) none (SOp.a (AOp.box 28 (SX.tmp 0))), SOper.mk (some 2) none (SOp.p (POp.move (SX.lit (AV.bool false))))])
  (SCode.seq (SCode.draw [SOper.mk (some 3) none (SOp.p (POp.faddr 3 (SX.tmp 1))), SOper.mk (some 4) none (SOp.p (POp.load1 (SX.tmp 3)))] [(SOper.mk (some 5) none (SOp.call (SX.lit (AV.func 32 [])) [SX.lit (AV.func 13 []), SX.tmp 4]), [], [SOper.mk (some 6) none (SOp.p (POp.move (SX.tmp 5))), SOper.mk (some 7) (some (6, true)) (SOp.p (POp.faddr 3 (SX.tmp 1))), SOper.mk (some 8) (some (6, true)) (SOp.p (POp.load1 (SX.tmp 7))), SOper.mk (some 9) (some (6, true)) (SOp.p (POp.loadn 4 (SX.tmp 1)))]), (SOper.mk (some 10) (some (6, true)) (SOp.call (SX.lit (AV.func 34 [])) [SX.tmp 9]), [SOper.mk (some 8) (some (6, true)) (SOp.p (POp.load1 (SX.tmp 7)))], [SOper.mk (some 11) (some (6, true)) (SOp.p (POp.sliceS 4 (SX.tmp 8) (some (SX.tmp 10)) none none))]), (SOper.mk (some 12) (some (6, true)) (SOp.call (SX.lit (AV.func 32 [])) [SX.lit (AV.func 33 []), SX.tmp 11]), [], [SOper.mk (some 13) none (SOp.p (POp.pick (SX.tmp 6) (SX.tmp 12) (SX.lit (AV.bool false)))), SOper.mk (some 2) none (SOp.p (POp.move (SX.tmp 13)))])])
  SCode.ret)), [ResV.tmp 2]⟩
theorem code13 (own : FuncId → Option (List AV → Heap → R)) (mode : FuncId → Nat) : (slimPrg Tryd.prog own mode).code 13 = some c13 := by kernel_rfl
-- thunk/thunkref7.Is
def c14_l0 : SCode :=
  (SCode.seq (SCode.seq (SCode.ops [SOper.mk (some 7) none (SOp.p (POp.move (SX.tmp 4))), SOper.mk (some 8) none (SOp.p (POp.faddr 3 (SX.tmp 1))), SOper.mk (some 9) none (SOp.p (POp.load1 (SX.tmp 8))), SOper.mk (some 10) none (SOp.p (POp.lenS (SX.tmp 9))), SOper.mk (some 11) none (SOp.p (POp.bin BinOp.lss EqT.none (SX.tmp 7) (SX.tmp 10)))])
  (SCode.cond (SX.tmp 11)
  SCode.skip
  (SCode.exit 0)))
  (SCode.seq (SCode.block 1 (SCode.seq (SCode.ops [SOper.mk (some 14) none (SOp.p (POp.faddr 3 (SX.tmp 1))), SOper.mk (some 15) none (SOp.p (POp.load1 (SX.tmp 14))), SOper.mk (some 16) none (SOp.p (POp.move (SX.tmp 4))), SOper.mk (some 17) none (SOp.p (POp.iaddr 4 (SX.tmp 15) (SX.tmp 16))), SOper.mk (some 18) none (SOp.p (POp.loadn 4 (SX.tmp 17))), SOper.mk (some 19) none (SOp.call (SX.lit (AV.func 14 [])) [SX.tmp 18]), SOper.mk (some 20) none (SOp.p (POp.not (SX.tmp 19))), SOper.mk (some 21) none (SOp.p (POp.move (SX.tmp 20))), SOper.mk (some 22) (some (21, false)) (SOp.p (POp.move (SX.tmp 3))), SOper.mk (some 23) (some (21, false)) (SOp.p (POp.bin BinOp.geq EqT.none (SX.tmp 22) (SX.lit (AV.int IntKind.i64 0)))), SOper.mk (some 24) (some (21, false)) (SOp.p (POp.move (SX.tmp 23))), SOper.mk (some 25) (some (24, true)) (SOp.p (POp.move (SX.tmp 4))), SOper.mk (some 26) (some (24, true)) (SOp.p (POp.move (SX.tmp 3))), SOper.mk (some 27) (some (24, true)) (SOp.p (POp.bin BinOp.geq EqT.none (SX.tmp 25) (SX.tmp 26))), SOper.mk (some 28) (some (21, false)) (SOp.p (POp.pick (SX.tmp 24) (SX.tmp 27) (SX.lit (AV.bool false)))), SOper.mk (some 29) (some (21, false)) (SOp.p (POp.move (SX.tmp 28))), SOper.mk (some 30) (some (29, true)) (SOp.p (POp.faddr 3 (SX.tmp 1))), SOper.mk (some 31) (some (29, true)) (SOp.p (POp.load1 (SX.tmp 30))), SOper.mk (some 32) (some (29, true)) (SOp.p (POp.move (SX.tmp 4))), SOper.mk (some 33) (some (29, true)) (SOp.p (POp.iaddr 4 (SX.tmp 31) (SX.tmp 32))), SOper.mk (some 34) (some (29, true)) (SOp.p (POp.loadn 4 (SX.tmp 33))), SOper.mk (some 35) (some (29, true)) (SOp.call (SX.lit (AV.func 36 [])) [SX.tmp 34]), SOper.mk (some 36) (some (29, true)) (SOp.p (POp.not (SX.tmp 35))), SOper.mk (some 37) (some (21, false)) (SOp.p (POp.pick (SX.tmp 29) (SX.tmp 36) (SX.lit (AV.bool false)))), SOper.mk (some 38) none (SOp.p (POp.pick (SX.tmp 21) (SX.lit (AV.bool true)) (SX.tmp 37)))])
  (SCode.cond (SX.tmp 38)
  (SCode.seq (SCode.ops [SOper.mk (some 2) none (SOp.p (POp.move (SX.lit (AV.bool false))))])
  SCode.ret)
  SCode.skip)))
  (SCode.ops [SOper.mk (some 12) none (SOp.p (POp.move (SX.tmp 4))), SOper.mk (some 13) none (SOp.p (POp.bin BinOp.add EqT.none (SX.tmp 12) (SX.lit (AV.int IntKind.i64 1)))), SOper.mk (some 4) none (SOp.p (POp.move (SX.tmp 13)))])))
def c14 : SFunc := ⟨39, (SCode.seq (SCode.ops [SOper.mk (some 1) none (SOp.a (AOp.box 28 (SX.tmp 0))), SOper.mk (some 2) none (SOp.p (POp.move (SX.lit (AV.bool false))))])
  (SCode.seq (SCode.ops [SOper.mk (some 5) none (SOp.p (POp.loadn 4 (SX.tmp 1))), SOper.mk (some 6) none (SOp.call (SX.lit (AV.func 35 [])) [SX.tmp 5]), SOper.mk (some 3) none (SOp.p (POp.move (SX.tmp 6)))])
  (SCode.seq (SCode.seq (SCode.ops [SOper.mk (some 4) none (SOp.p (POp.move (SX.lit (AV.int IntKind.i64 0))))])
  (SCode.block 0 (SCode.loop c14_l0)))
  (SCode.seq (SCode.ops [SOper.mk (some 2) none (SOp.p (POp.move (SX.lit (AV.bool true))))])
  SCode.ret)))), [ResV.tmp 2]⟩
theorem code14 (own : FuncId → Option (List AV → Heap → R)) (mode : FuncId → Nat) : (slimPrg Tryd.prog own mode).code 14 = some c14 := by kernel_rfl
-- thunk/thunkref5.Same
def c15_l0 : SCode :=
  (SCode.seq (SCode.seq (SCode.ops [SOper.mk (some 35) none (SOp.p (POp.move (SX.tmp 5))), SOper.mk (some 36) none (SOp.p (POp.faddr 3 (SX.tmp 2))), SOper.mk (some 37) none (SOp.p (POp.load1 (SX.tmp 36))), SOper.mk (some 38) none (SOp.p (POp.lenS (SX.tmp 37))), SOper.mk (some 39) none (SOp.p (POp.bin BinOp.lss EqT.none (SX.tmp 35) (SX.tmp 38)))])
  (SCode.cond (SX.tmp 39)
  SCode.skip
  (SCode.exit 0)))
  (SCode.seq (SCode.block 1 (SCode.seq (SCode.draw [SOper.mk (some 42) none (SOp.p (POp.faddr 3 (SX.tmp 2))), SOper.mk (some 43) none (SOp.p (POp.load1 (SX.tmp 42))), SOper.mk (some 44) none (SOp.p (POp.move (SX.tmp 5))), SOper.mk (some 45) none (SOp.p (POp.iaddr 4 (SX.tmp 43) (SX.tmp 44))), SOper.mk (some 46) none (SOp.p (POp.loadn 4 (SX.tmp 45))), SOper.mk (some 47) none (SOp.p (POp.faddr 3 (SX.tmp 3))), SOper.mk (some 48) none (SOp.p (POp.load1 (SX.tmp 47))), SOper.mk (some 49) none (SOp.p (POp.move (SX.tmp 5))), SOper.mk (some 50) none (SOp.p (POp.iaddr 4 (SX.tmp 48) (SX.tmp 49))), SOper.mk (some 51) none (SOp.p (POp.loadn 4 (SX.tmp 50)))] [(SOper.mk (some 52) none (SOp.call (SX.lit (AV.func 15 [])) [SX.tmp 46, SX.tmp 51]), [], [SOper.mk (some 53) none (SOp.p (POp.not (SX.tmp 52)))])])
  (SCode.cond (SX.tmp 53)
  (SCode.seq (SCode.ops [SOper.mk (some 4) none (SOp.p (POp.move (SX.lit (AV.bool false))))])
  SCode.ret)
  SCode.skip)))
  (SCode.ops [SOper.mk (some 40) none (SOp.p (POp.move (SX.tmp 5))), SOper.mk (some 41) none (SOp.p (POp.bin BinOp.add EqT.none (SX.tmp 40) (SX.lit (AV.int IntKind.i64 1)))), SOper.mk (some 5) none (SOp.p (POp.move (SX.tmp 41)))])))
def c15 : SFunc := ⟨54, (SCode.seq (SCode.ops [SOper.mk (some 2) none (SOp.a (AOp.box 28 (SX.tmp 0))), SOper.mk (some 3) none (SOp.a (AOp.box 28 (SX.tmp 1))), SOper.mk (some 4) none (SOp.p (POp.move (SX.lit (AV.bool false))))])
  (SCode.seq (SCode.seq (SCode.ops [SOper.mk (some 6) none (SOp.p (POp.faddr 0 (SX.tmp 2))), SOper.mk (some 7) none (SOp.p (POp.load1 (SX.tmp 6))), SOper.mk (some 8) none (SOp.p (POp.faddr 0 (SX.tmp 3))), SOper.mk (some 9) none (SOp.p (POp.load1 (SX.tmp 8))), SOper.mk (some 10) none (SOp.p (POp.bin BinOp.neq EqT.none (SX.tmp 7) (SX.tmp 9))), SOper.mk (some 11) none (SOp.p (POp.move (SX.tmp 10))), SOper.mk (some 12) (some (11, false)) (SOp.p (POp.faddr 1 (SX.tmp 2))), SOper.mk (some 13) (some (11, false)) (SOp.p (POp.load1 (SX.tmp 12))), SOper.mk (some 14) (some (11, false)) (SOp.p (POp.faddr 1 (SX.tmp 3))), SOper.mk (some 15) (some (11, false)) (SOp.p (POp.load1 (SX.tmp 14))), SOper.mk (some 16) (some (11, false)) (SOp.p (POp.bin BinOp.neq EqT.none (SX.tmp 13) (SX.tmp 15))), SOper.mk (some 17) none (SOp.p (POp.pick (SX.tmp 11) (SX.lit (AV.bool true)) (SX.tmp 16))), SOper.mk (some 18) none (SOp.p (POp.move (SX.tmp 17))), SOper.mk (some 19) (some (18, false)) (SOp.p (POp.faddr 2 (SX.tmp 2))), SOper.mk (some 20) (some (18, false)) (SOp.p (POp.load1 (SX.tmp 19))), SOper.mk (some 21) (some (18, false)) (SOp.p (POp.faddr 2 (SX.tmp 3))), SOper.mk (some 22) (some (18, false)) (SOp.p (POp.load1 (SX.tmp 21))), SOper.mk (some 23) (some (18, false)) (SOp.call (SX.lit (AV.func 37 [])) [SX.tmp 20, SX.tmp 22]), SOper.mk (some 24) (some (18, false)) (SOp.p (POp.not (SX.tmp 23))), SOper.mk (some 25) none (SOp.p (POp.pick (SX.tmp 18) (SX.lit (AV.bool true)) (SX.tmp 24))), SOper.mk (some 26) none (SOp.p (POp.move (SX.tmp 25))), SOper.mk (some 27) (some (26, false)) (SOp.p (POp.faddr 3 (SX.tmp 2))), SOper.mk (some 28) (some (26, false)) (SOp.p (POp.load1 (SX.tmp 27))), SOper.mk (some 29) (some (26, false)) (SOp.p (POp.lenS (SX.tmp 28))), SOper.mk (some 30) (some (26, false)) (SOp.p (POp.faddr 3 (SX.tmp 3))), SOper.mk (some 31) (some (26, false)) (SOp.p (POp.load1 (SX.tmp 30))), SOper.mk (some 32) (some (26, false)) (SOp.p (POp.lenS (SX.tmp 31))), SOper.mk (some 33) (some (26, false)) (SOp.p (POp.bin BinOp.neq EqT.none (SX.tmp 29) (SX.tmp 32))), SOper.mk (some 34) none (SOp.p (POp.pick (SX.tmp 26) (SX.lit (AV.bool true)) (SX.tmp 33)))])
  (SCode.cond (SX.tmp 34)
  (SCode.seq (SCode.ops [SOper.mk (some 4) none (SOp.p (POp.move (SX.lit (AV.bool false))))])
  SCode.ret)
  SCode.skip))
  (SCode.seq (SCode.seq (SCode.ops [SOper.mk (some 5) none (SOp.p (POp.move (SX.lit (AV.int IntKind.i64 0))))])
  (SCode.block 0 (SCode.loop c15_l0)))
  (SCode.seq (SCode.ops [SOper.mk (some 4) none (SOp.p (POp.move (SX.lit (AV.bool true))))])
  SCode.ret)))), [ResV.tmp 4]⟩
theorem code15 (own : FuncId → Option (List AV → Heap → R)) (mode : FuncId → Nat) : (slimPrg Tryd.prog own mode).code 15 = some c15 := by kernel_rfl
-- thunk/norm.Norm
def c16 : SFunc := ⟨8, (SCode.seq (SCode.ops [SOper.mk (some 1) none (SOp.a (AOp.box 28 (SX.tmp 0))), SOper.mk (some 2) none (SOp.a (AOp.newc 28 [AV.int IntKind.i64 0, AV.str [], AV.nils, AV.nils]))])
  (SCode.seq (SCode.ops [SOper.mk (some 3) none (SOp.p (POp.build [AV.int IntKind.i64 0] [])), SOper.mk (some 4) none (SOp.a (AOp.box 59 (SX.tmp 3))), SOper.mk (some 5) none (SOp.p (POp.build [AV.nilp] [(0, 1, SX.tmp 4)])), SOper.mk (some 6) none (SOp.p (POp.loadn 4 (SX.tmp 1))), SOper.mk (some 7) none (SOp.call (SX.lit (AV.func 38 [])) [SX.tmp 5, SX.tmp 6]), SOper.mk none none (SOp.w (WOp.store 4 (SX.tmp 2) (SX.tmp 7)))])
  SCode.ret)), [ResV.celln 2 4]⟩
theorem code16 (own : FuncId → Option (List AV → Heap → R)) (mode : FuncId → Nat) : (slimPrg Tryd.prog own mode).code 16 = some c16 := by kernel_rfl
-- thunk/thunkref7.Norm
def c17 : SFunc := ⟨9, (SCode.seq (SCode.ops [SOper.mk (some 1) none (SOp.a (AOp.box 28 (SX.tmp 0))), SOper.mk (some 2) none (SOp.a (AOp.newc 28 [AV.int IntKind.i64 0, AV.str [], AV.nils, AV.nils]))])
  (SCode.seq (SCode.ops [SOper.mk (some 4) none (SOp.p (POp.build [AV.str [], AV.int IntKind.i64 0] [(0, 1, SX.lit (AV.str [37, 46]))])), SOper.mk (some 5) none (SOp.a (AOp.box 64 (SX.tmp 4))), SOper.mk (some 3) none (SOp.p (POp.move (SX.tmp 5)))])
  (SCode.seq (SCode.ops [SOper.mk (some 6) none (SOp.p (POp.move (SX.tmp 3))), SOper.mk (some 7) none (SOp.p (POp.loadn 4 (SX.tmp 1))), SOper.mk (some 8) none (SOp.call (SX.lit (AV.func 39 [])) [SX.tmp 6, SX.tmp 7]), SOper.mk none none (SOp.w (WOp.store 4 (SX.tmp 2) (SX.tmp 8)))])
  SCode.ret))), [ResV.celln 2 4]⟩
theorem code17 (own : FuncId → Option (List AV → Heap → R)) (mode : FuncId → Nat) : (slimPrg Tryd.prog own mode).code 17 = some c17 := by kernel_rfl
-- thunk/thunklaw7.within
def c18 : SFunc := ⟨15, (SCode.seq (SCode.ops [SOper.mk (some 4) none (SOp.p (POp.move (SX.lit (AV.int IntKind.i64 0))))])
  (SCode.seq (SCode.ops [SOper.mk (some 6) none (SOp.p (POp.move (SX.tmp 0))), SOper.mk (some 7) none (SOp.p (POp.move (SX.tmp 1))), SOper.mk (some 8) none (SOp.p (POp.bin BinOp.rem EqT.none (SX.tmp 6) (SX.tmp 7))), SOper.mk (some 5) none (SOp.p (POp.move (SX.tmp 8)))])
  (SCode.seq (SCode.seq (SCode.ops [SOper.mk (some 9) none (SOp.p (POp.move (SX.tmp 5))), SOper.mk (some 10) none (SOp.p (POp.bin BinOp.lss EqT.none (SX.tmp 9) (SX.lit (AV.int IntKind.i64 0))))])
  (SCode.cond (SX.tmp 10)
  (SCode.ops [SOper.mk (some 11) none (SOp.p (POp.move (SX.tmp 5))), SOper.mk (some 12) none (SOp.p (POp.move (SX.tmp 1))), SOper.mk (some 13) none (SOp.p (POp.bin BinOp.add EqT.none (SX.tmp 11) (SX.tmp 12))), SOper.mk (some 5) none (SOp.p (POp.move (SX.tmp 13)))])
  SCode.skip))
  (SCode.seq (SCode.ops [SOper.mk (some 14) none (SOp.p (POp.move (SX.tmp 5))), SOper.mk (some 4) none (SOp.p (POp.move (SX.tmp 14)))])
  SCode.ret)))), [ResV.tmp 4]⟩
theorem code18 (own : FuncId → Option (List AV → Heap → R)) (mode : FuncId → Nat) : (slimPrg Tryd.prog own mode).code 18 = some c18 := by kernel_rfl
-- thunk/thunkref5.Right
def c19_l0 : SCode :=
  (SCode.seq (SCode.seq (SCode.ops [SOper.mk (some 7) none (SOp.p (POp.move (SX.tmp 3))), SOper.mk (some 8) none (SOp.p (POp.faddr 3 (SX.tmp 1))), SOper.mk (some 9) none (SOp.p (POp.load1 (SX.tmp 8))), SOper.mk (some 10) none (SOp.p (POp.lenS (SX.tmp 9))), SOper.mk (some 11) none (SOp.p (POp.bin BinOp.lss EqT.none (SX.tmp 7) (SX.tmp 10)))])
  (SCode.cond (SX.tmp 11)
  SCode.skip
  (SCode.exit 0)))
  (SCode.seq (SCode.block 1 (SCode.seq (SCode.ops [SOper.mk (some 14) none (SOp.p (POp.faddr 3 (SX.tmp 1))), SOper.mk (some 15) none (SOp.p (POp.load1 (SX.tmp 14))), SOper.mk (some 16) none (SOp.p (POp.move (SX.tmp 3))), SOper.mk (some 17) none (SOp.p (POp.iaddr 4 (SX.tmp 15) (SX.tmp 16))), SOper.mk (some 18) none (SOp.p (POp.loadn 4 (SX.tmp 17))), SOper.mk (some 19) none (SOp.call (SX.lit (AV.func 19 [])) [SX.tmp 18]), SOper.mk (some 20) none (SOp.p (POp.not (SX.tmp 19)))])
  (SCode.cond (SX.tmp 20)
  (SCode.seq (SCode.ops [SOper.mk (some 2) none (SOp.p (POp.move (SX.lit (AV.bool false))))])
  SCode.ret)
  SCode.skip)))
  (SCode.ops [SOper.mk (some 12) none (SOp.p (POp.move (SX.tmp 3))), SOper.mk (some 13) none (SOp.p (POp.bin BinOp.add EqT.none (SX.tmp 12) (SX.lit (AV.int IntKind.i64 1)))), SOper.mk (some 3) none (SOp.p (POp.move (SX.tmp 13)))])))
def c19 : SFunc := ⟨21, (SCode.seq (SCode.ops [SOper.mk (some 1) none (SOp.a (AOp.box 28 (SX.tmp 0))), SOper.mk (some 2) none (SOp.p (POp.move (SX.lit (AV.bool false))))])
  (SCode.seq (SCode.seq (SCode.ops [SOper.mk (some 4) none (SOp.p (POp.loadn 4 (SX.tmp 1))), SOper.mk (some 5) none (SOp.call (SX.lit (AV.func 40 [])) [SX.tmp 4]), SOper.mk (some 6) none (SOp.p (POp.not (SX.tmp 5)))])
  (SCode.cond (SX.tmp 6)
  (SCode.seq (SCode.ops [SOper.mk (some 2) none (SOp.p (POp.move (SX.lit (AV.bool false))))])
  SCode.ret)
  SCode.skip))
  (SCode.seq (SCode.seq (SCode.ops [SOper.mk (some 3) none (SOp.p (POp.move (SX.lit (AV.int IntKind.i64 0))))])
  (SCode.block 0 (SCode.loop c19_l0)))
  (SCode.seq (SCode.ops [SOper.mk (some 2) none (SOp.p (POp.move (SX.lit (AV.bool true))))])
  SCode.ret)))), [ResV.tmp 2]⟩
theorem code19 (own : FuncId → Option (List AV → Heap → R)) (mode : FuncId → Nat) : (slimPrg Tryd.prog own mode).code 19 = some c19 := by kernel_rfl
-- thunk/thunkref5.Free
def c20_l0 : SCode :=
  (SCode.seq (SCode.seq (SCode.ops [SOper.mk (some 26) none (SOp.p (POp.move (SX.tmp 6))), SOper.mk (some 27) none (SOp.p (POp.move (SX.tmp 5))), SOper.mk (some 28) none (SOp.p (POp.lenS (SX.tmp 27))), SOper.mk (some 29) none (SOp.p (POp.bin BinOp.lss EqT.none (SX.tmp 26) (SX.tmp 28)))])
  (SCode.cond (SX.tmp 29)
  SCode.skip
  (SCode.exit 2)))
  (SCode.seq (SCode.block 3 (SCode.ops [SOper.mk (some 32) none (SOp.p (POp.move (SX.tmp 3))), SOper.mk (some 33) none (SOp.p (POp.move (SX.tmp 5))), SOper.mk (some 34) none (SOp.p (POp.move (SX.tmp 6))), SOper.mk (some 35) none (SOp.p (POp.iaddr 1 (SX.tmp 33) (SX.tmp 34))), SOper.mk (some 36) none (SOp.p (POp.load1 (SX.tmp 35))), SOper.mk (some 37) none (SOp.call (SX.lit (AV.func 41 [])) [SX.tmp 32, SX.tmp 36]), SOper.mk (some 3) none (SOp.p (POp.move (SX.tmp 37)))]))
  (SCode.ops [SOper.mk (some 30) none (SOp.p (POp.move (SX.tmp 6))), SOper.mk (some 31) none (SOp.p (POp.bin BinOp.add EqT.none (SX.tmp 30) (SX.lit (AV.int IntKind.i64 1)))), SOper.mk (some 6) none (SOp.p (POp.move (SX.tmp 31)))])))
def c20_l1 : SCode :=
  (SCode.seq (SCode.seq (SCode.ops [SOper.mk (some 13) none (SOp.p (POp.move (SX.tmp 4))), SOper.mk (some 14) none (SOp.p (POp.faddr 3 (SX.tmp 1))), SOper.mk (some 15) none (SOp.p (POp.load1 (SX.tmp 14))), SOper.mk (some 16) none (SOp.p (POp.lenS (SX.tmp 15))), SOper.mk (some 17) none (SOp.p (POp.bin BinOp.lss EqT.none (SX.tmp 13) (SX.tmp 16)))])
  (SCode.cond (SX.tmp 17)
  SCode.skip
  (SCode.exit 0)))
  (SCode.seq (SCode.block 1 (SCode.seq (SCode.ops [SOper.mk (some 20) none (SOp.p (POp.faddr 3 (SX.tmp 1))), SOper.mk (some 21) none (SOp.p (POp.load1 (SX.tmp 20))), SOper.mk (some 22) none (SOp.p (POp.move (SX.tmp 4))), SOper.mk (some 23) none (SOp.p (POp.iaddr 4 (SX.tmp 21) (SX.tmp 22))), SOper.mk (some 24) none (SOp.p (POp.loadn 4 (SX.tmp 23))), SOper.mk (some 25) none (SOp.call (SX.lit (AV.func 20 [])) [SX.tmp 24]), SOper.mk (some 5) none (SOp.p (POp.move (SX.tmp 25)))])
  (SCode.seq (SCode.ops [SOper.mk (some 6) none (SOp.p (POp.move (SX.lit (AV.int IntKind.i64 0))))])
  (SCode.block 2 (SCode.loop c20_l0)))))
  (SCode.ops [SOper.mk (some 18) none (SOp.p (POp.move (SX.tmp 4))), SOper.mk (some 19) none (SOp.p (POp.bin BinOp.add EqT.none (SX.tmp 18) (SX.lit (AV.int IntKind.i64 1)))), SOper.mk (some 4) none (SOp.p (POp.move (SX.tmp 19)))])))
def c20 : SFunc := ⟨42, (SCode.seq (SCode.ops [SOper.mk (some 1) none (SOp.a (AOp.box 28 (SX.tmp 0))), SOper.mk (some 2) none (SOp.p (POp.move (SX.lit AV.nils)))])
  (SCode.seq (SCode.seq (SCode.ops [SOper.mk (some 7) none (SOp.p (POp.faddr 0 (SX.tmp 1))), SOper.mk (some 8) none (SOp.p (POp.load1 (SX.tmp 7))), SOper.mk (some 9) none (SOp.p (POp.bin BinOp.eql EqT.none (SX.tmp 8) (SX.lit (AV.int IntKind.i64 5))))])
  (SCode.cond (SX.tmp 9)
  (SCode.seq (SCode.ops [SOper.mk (some 10) none (SOp.p (POp.faddr 1 (SX.tmp 1))), SOper.mk (some 11) none (SOp.p (POp.load1 (SX.tmp 10))), SOper.mk (some 12) none (SOp.a (AOp.buildS [AV.str []] 1 [(0, 1, SX.tmp 11)])), SOper.mk (some 2) none (SOp.p (POp.move (SX.tmp 12)))])
  SCode.ret)
  SCode.skip))
  (SCode.seq (SCode.ops [SOper.mk (some 3) none (SOp.p (POp.move (SX.lit AV.nils)))])
  (SCode.seq (SCode.seq (SCode.ops [SOper.mk (some 4) none (SOp.p (POp.move (SX.lit (AV.int IntKind.i64 0))))])
  (SCode.block 0 (SCode.loop c20_l1)))
  (SCode.seq (SCode.ops [SOper.mk (some 38) none (SOp.p (POp.move (SX.tmp 3))), SOper.mk (some 39) none (SOp.p (POp.faddr 2 (SX.tmp 1))), SOper.mk (some 40) none (SOp.p (POp.load1 (SX.tmp 39))), SOper.mk (some 41) none (SOp.call (SX.lit (AV.func 42 [])) [SX.tmp 38, SX.tmp 40]), SOper.mk (some 2) none (SOp.p (POp.move (SX.tmp 41)))])
  SCode.ret))))), [ResV.tmp 2]⟩
theorem code20 (own : FuncId → Option (List AV → Heap → R)) (mode : FuncId → Nat) : (slimPrg Tryd.prog own mode).code 20 = some c20 := by kernel_rfl
-- thunk/thunkref5.Once
def c21_l0 : SCode :=
  (SCode.seq (SCode.seq (SCode.ops [SOper.mk (some 4) none (SOp.p (POp.move (SX.tmp 3))), SOper.mk (some 5) none (SOp.p (POp.move (SX.tmp 0))), SOper.mk (some 6) none (SOp.p (POp.lenS (SX.tmp 5))), SOper.mk (some 7) none (SOp.p (POp.bin BinOp.lss EqT.none (SX.tmp 4) (SX.tmp 6)))])
  (SCode.cond (SX.tmp 7)
  SCode.skip
  (SCode.exit 0)))
  (SCode.seq (SCode.block 1 (SCode.seq (SCode.draw [SOper.mk (some 10) none (SOp.p (POp.move (SX.tmp 0))), SOper.mk (some 11) none (SOp.p (POp.move (SX.tmp 3))), SOper.mk (some 12) none (SOp.p (POp.iaddr 1 (SX.tmp 10) (SX.tmp 11))), SOper.mk (some 13) none (SOp.p (POp.load1 (SX.tmp 12))), SOper.mk (some 14) none (SOp.p (POp.bin BinOp.eql EqT.none (SX.tmp 13) (SX.lit (AV.str [])))), SOper.mk (some 15) none (SOp.p (POp.move (SX.tmp 14))), SOper.mk (some 16) (some (15, false)) (SOp.p (POp.move (SX.tmp 0))), SOper.mk (some 17) (some (15, false)) (SOp.p (POp.move (SX.tmp 3))), SOper.mk (some 18) (some (15, false)) (SOp.p (POp.sliceS 1 (SX.tmp 16) none (some (SX.tmp 17)) none)), SOper.mk (some 19) (some (15, false)) (SOp.p (POp.move (SX.tmp 0))), SOper.mk (some 20) (some (15, false)) (SOp.p (POp.move (SX.tmp 3))), SOper.mk (some 21) (some (15, false)) (SOp.p (POp.iaddr 1 (SX.tmp 19) (SX.tmp 20))), SOper.mk (some 22) (some (15, false)) (SOp.p (POp.load1 (SX.tmp 21)))] [(SOper.mk (some 23) (some (15, false)) (SOp.call (SX.lit (AV.func 43 [])) [SX.tmp 18, SX.tmp 22]), [], [SOper.mk (some 24) none (SOp.p (POp.pick (SX.tmp 15) (SX.lit (AV.bool true)) (SX.tmp 23)))])])
  (SCode.cond (SX.tmp 24)
  (SCode.seq (SCode.ops [SOper.mk (some 2) none (SOp.p (POp.move (SX.lit (AV.bool false))))])
  SCode.ret)
  SCode.skip)))
  (SCode.ops [SOper.mk (some 8) none (SOp.p (POp.move (SX.tmp 3))), SOper.mk (some 9) none (SOp.p (POp.bin BinOp.add EqT.none (SX.tmp 8) (SX.lit (AV.int IntKind.i64 1)))), SOper.mk (some 3) none (SOp.p (POp.move (SX.tmp 9)))])))
def c21 : SFunc := ⟨25, (SCode.seq (SCode.ops [SOper.mk (some 2) none (SOp.p (POp.move (SX.lit (AV.bool false))))])
  (SCode.seq (SCode.seq (SCode.ops [SOper.mk (some 3) none (SOp.p (POp.move (SX.lit (AV.int IntKind.i64 0))))])
  (SCode.block 0 (SCode.loop c21_l0)))
  (SCode.seq (SCode.ops [SOper.mk (some 2) none (SOp.p (POp.move (SX.lit (AV.bool true))))])
  SCode.ret))), [ResV.tmp 2]⟩
theorem code21 (own : FuncId → Option (List AV → Heap → R)) (mode : FuncId → Nat) : (slimPrg Tryd.prog own mode).code 21 = some c21 := by kernel_rfl
-- thunk/thunklaw7.bound
def c22_l0 : SCode :=
  (SCode.seq (SCode.seq (SCode.ops [SOper.mk (some 10) none (SOp.p (POp.move (SX.tmp 5))), SOper.mk (some 11) none (SOp.p (POp.faddr 3 (SX.tmp 2))), SOper.mk (some 12) none (SOp.p (POp.load1 (SX.tmp 11))), SOper.mk (some 13) none (SOp.p (POp.lenS (SX.tmp 12))), SOper.mk (some 14) none (SOp.p (POp.bin BinOp.lss EqT.none (SX.tmp 10) (SX.tmp 13)))])
  (SCode.cond (SX.tmp 14)
  SCode.skip
  (SCode.exit 0)))
  (SCode.seq (SCode.block 1 (SCode.ops [SOper.mk (some 17) none (SOp.p (POp.faddr 3 (SX.tmp 2))), SOper.mk (some 18) none (SOp.p (POp.load1 (SX.tmp 17))), SOper.mk (some 19) none (SOp.p (POp.move (SX.tmp 5))), SOper.mk (some 20) none (SOp.p (POp.iaddr 4 (SX.tmp 18) (SX.tmp 19))), SOper.mk (some 21) none (SOp.p (POp.loadn 4 (SX.tmp 20))), SOper.mk (some 22) none (SOp.p (POp.move (SX.tmp 1))), SOper.mk (some 23) none (SOp.call (SX.lit (AV.func 22 [])) [SX.tmp 21, SX.tmp 22]), SOper.mk (some 1) none (SOp.p (POp.move (SX.tmp 23)))]))
  (SCode.ops [SOper.mk (some 15) none (SOp.p (POp.move (SX.tmp 5))), SOper.mk (some 16) none (SOp.p (POp.bin BinOp.add EqT.none (SX.tmp 15) (SX.lit (AV.int IntKind.i64 1)))), SOper.mk (some 5) none (SOp.p (POp.move (SX.tmp 16)))])))
def c22 : SFunc := ⟨25, (SCode.seq (SCode.ops [SOper.mk (some 2) none (SOp.a (AOp.box 28 (SX.tmp 0))), SOper.mk (some 4) none (SOp.p (POp.move (SX.lit AV.nils)))])
  (SCode.seq (SCode.ops [SOper.mk (some 6) none (SOp.p (POp.move (SX.tmp 1))), SOper.mk (some 7) none (SOp.p (POp.faddr 2 (SX.tmp 2))), SOper.mk (some 8) none (SOp.p (POp.load1 (SX.tmp 7))), SOper.mk (some 9) none (SOp.w (WOp.append 9 1 16 (SX.tmp 6) (SX.tmp 8))), SOper.mk (some 1) none (SOp.p (POp.move (SX.tmp 9)))])
  (SCode.seq (SCode.seq (SCode.ops [SOper.mk (some 5) none (SOp.p (POp.move (SX.lit (AV.int IntKind.i64 0))))])
  (SCode.block 0 (SCode.loop c22_l0)))
  (SCode.seq (SCode.ops [SOper.mk (some 24) none (SOp.p (POp.move (SX.tmp 1))), SOper.mk (some 4) none (SOp.p (POp.move (SX.tmp 24)))])
  SCode.ret)))), [ResV.tmp 4]⟩
theorem code22 (own : FuncId → Option (List AV → Heap → R)) (mode : FuncId → Nat) : (slimPrg Tryd.prog own mode).code 22 = some c22 := by kernel_rfl
-- thunk/thunkref5.Size
def c23_l0 : SCode :=
  (SCode.seq (SCode.seq (SCode.ops [SOper.mk (some 5) none (SOp.p (POp.move (SX.tmp 4))), SOper.mk (some 6) none (SOp.p (POp.faddr 3 (SX.tmp 1))), SOper.mk (some 7) none (SOp.p (POp.load1 (SX.tmp 6))), SOper.mk (some 8) none (SOp.p (POp.lenS (SX.tmp 7))), SOper.mk (some 9) none (SOp.p (POp.bin BinOp.lss EqT.none (SX.tmp 5) (SX.tmp 8)))])
  (SCode.cond (SX.tmp 9)
  SCode.skip
  (SCode.exit 0)))
  (SCode.seq (SCode.block 1 (SCode.ops [SOper.mk (some 12) none (SOp.p (POp.move (SX.tmp 3))), SOper.mk (some 13) none (SOp.p (POp.faddr 3 (SX.tmp 1))), SOper.mk (some 14) none (SOp.p (POp.load1 (SX.tmp 13))), SOper.mk (some 15) none (SOp.p (POp.move (SX.tmp 4))), SOper.mk (some 16) none (SOp.p (POp.iaddr 4 (SX.tmp 14) (SX.tmp 15))), SOper.mk (some 17) none (SOp.p (POp.loadn 4 (SX.tmp 16))), SOper.mk (some 18) none (SOp.call (SX.lit (AV.func 23 [])) [SX.tmp 17]), SOper.mk (some 19) none (SOp.p (POp.bin BinOp.add EqT.none (SX.tmp 12) (SX.tmp 18))), SOper.mk (some 3) none (SOp.p (POp.move (SX.tmp 19)))]))
  (SCode.ops [SOper.mk (some 10) none (SOp.p (POp.move (SX.tmp 4))), SOper.mk (some 11) none (SOp.p (POp.bin BinOp.add EqT.none (SX.tmp 10) (SX.lit (AV.int IntKind.i64 1)))), SOper.mk (some 4) none (SOp.p (POp.move (SX.tmp 11)))])))
def c23 : SFunc := ⟨21, (SCode.seq (SCode.ops [SOper.mk (some 1) none (SOp.a (AOp.box 28 (SX.tmp 0))), SOper.mk (some 2) none (SOp.p (POp.move (SX.lit (AV.int IntKind.i64 0))))])
  (SCode.seq (SCode.ops [SOper.mk (some 3) none (SOp.p (POp.move (SX.lit (AV.int IntKind.i64 1))))])
  (SCode.seq (SCode.seq (SCode.ops [SOper.mk (some 4) none (SOp.p (POp.move (SX.lit (AV.int IntKind.i64 0))))])
  (SCode.block 0 (SCode.loop c23_l0)))
  (SCode.seq (SCode.ops [SOper.mk (some 20) none (SOp.p (POp.move (SX.tmp 3))), SOper.mk (some 2) none (SOp.p (POp.move (SX.tmp 20)))])
  SCode.ret)))), [ResV.tmp 2]⟩
theorem code23 (own : FuncId → Option (List AV → Heap → R)) (mode : FuncId → Nat) : (slimPrg Tryd.prog own mode).code 23 = some c23 := by kernel_rfl
-- thunk/thunklaw7.thick
def c24_l0 : SCode :=
  (SCode.seq (SCode.seq (SCode.ops [SOper.mk (some 5) none (SOp.p (POp.move (SX.tmp 4))), SOper.mk (some 6) none (SOp.p (POp.faddr 3 (SX.tmp 1))), SOper.mk (some 7) none (SOp.p (POp.load1 (SX.tmp 6))), SOper.mk (some 8) none (SOp.p (POp.lenS (SX.tmp 7))), SOper.mk (some 9) none (SOp.p (POp.bin BinOp.lss EqT.none (SX.tmp 5) (SX.tmp 8)))])
  (SCode.cond (SX.tmp 9)
  SCode.skip
  (SCode.exit 0)))
  (SCode.seq (SCode.block 1 (SCode.seq (SCode.ops [SOper.mk (some 12) none (SOp.p (POp.move (SX.tmp 3))), SOper.mk (some 13) none (SOp.p (POp.faddr 3 (SX.tmp 1))), SOper.mk (some 14) none (SOp.p (POp.load1 (SX.tmp 13))), SOper.mk (some 15) none (SOp.p (POp.move (SX.tmp 4))), SOper.mk (some 16) none (SOp.p (POp.iaddr 4 (SX.tmp 14) (SX.tmp 15))), SOper.mk (some 17) none (SOp.p (POp.loadn 4 (SX.tmp 16))), SOper.mk (some 18) none (SOp.call (SX.lit (AV.func 24 [])) [SX.tmp 17]), SOper.mk (some 19) none (SOp.p (POp.bin BinOp.add EqT.none (SX.tmp 12) (SX.tmp 18))), SOper.mk (some 3) none (SOp.p (POp.move (SX.tmp 19)))])
  (SCode.seq (SCode.ops [SOper.mk (some 20) none (SOp.p (POp.faddr 0 (SX.tmp 1))), SOper.mk (some 21) none (SOp.p (POp.load1 (SX.tmp 20))), SOper.mk (some 22) none (SOp.p (POp.bin BinOp.eql EqT.none (SX.tmp 21) (SX.lit (AV.int IntKind.i64 7)))), SOper.mk (some 23) none (SOp.p (POp.move (SX.tmp 22))), SOper.mk (some 24) (some (23, true)) (SOp.p (POp.move (SX.tmp 4))), SOper.mk (some 25) (some (23, true)) (SOp.p (POp.bin BinOp.gtr EqT.none (SX.tmp 24) (SX.lit (AV.int IntKind.i64 0)))), SOper.mk (some 26) none (SOp.p (POp.pick (SX.tmp 23) (SX.tmp 25) (SX.lit (AV.bool false)))), SOper.mk (some 27) none (SOp.p (POp.move (SX.tmp 26))), SOper.mk (some 28) (some (27, false)) (SOp.p (POp.faddr 0 (SX.tmp 1))), SOper.mk (some 29) (some (27, false)) (SOp.p (POp.load1 (SX.tmp 28))), SOper.mk (some 30) (some (27, false)) (SOp.p (POp.bin BinOp.eql EqT.none (SX.tmp 29) (SX.lit (AV.int IntKind.i64 10)))), SOper.mk (some 31) (some (27, false)) (SOp.p (POp.move (SX.tmp 30))), SOper.mk (some 32) (some (31, true)) (SOp.p (POp.faddr 1 (SX.tmp 1))), SOper.mk (some 33) (some (31, true)) (SOp.p (POp.load1 (SX.tmp 32))), SOper.mk (some 34) (some (31, true)) (SOp.p (POp.bin BinOp.eql EqT.none (SX.tmp 33) (SX.lit (AV.str [99, 111, 110, 115])))), SOper.mk (some 35) (some (27, false)) (SOp.p (POp.pick (SX.tmp 31) (SX.tmp 34) (SX.lit (AV.bool false)))), SOper.mk (some 36) none (SOp.p (POp.pick (SX.tmp 27) (SX.lit (AV.bool true)) (SX.tmp 35))), SOper.mk (some 37) none (SOp.p (POp.move (SX.tmp 36))), SOper.mk (some 38) (some (37, true)) (SOp.p (POp.faddr 3 (SX.tmp 1))), SOper.mk (some 39) (some (37, true)) (SOp.p (POp.load1 (SX.tmp 38))), SOper.mk (some 40) (some (37, true)) (SOp.p (POp.move (SX.tmp 4))), SOper.mk (some 41) (some (37, true)) (SOp.p (POp.iaddr 4 (SX.tmp 39) (SX.tmp 40))), SOper.mk (some 42) (some (37, true)) (SOp.p (POp.loadn 4 (SX.tmp 41))), SOper.mk (some 43) (some (37, true)) (SOp.call (SX.lit (AV.func 36 [])) [SX.tmp 42]), SOper.mk (some 44) (some (37, true)) (SOp.p (POp.not (SX.tmp 43))), SOper.mk (some 45) none (SOp.p (POp.pick (SX.tmp 37) (SX.tmp 44) (SX.lit (AV.bool false))))])
  (SCode.cond (SX.tmp 45)
  (SCode.ops [SOper.mk (some 46) none (SOp.p (POp.move (SX.tmp 3))), SOper.mk (some 47) none (SOp.p (POp.bin BinOp.add EqT.none (SX.tmp 46) (SX.lit (AV.int IntKind.i64 1)))), SOper.mk (some 3) none (SOp.p (POp.move (SX.tmp 47)))])
  SCode.skip))))
  (SCode.ops [SOper.mk (some 10) none (SOp.p (POp.move (SX.tmp 4))), SOper.mk (some 11) none (SOp.p (POp.bin BinOp.add EqT.none (SX.tmp 10) (SX.lit (AV.int IntKind.i64 1)))), SOper.mk (some 4) none (SOp.p (POp.move (SX.tmp 11)))])))
def c24 : SFunc := ⟨49, (SCode.seq (SCode.ops [SOper.mk (some 1) none (SOp.a (AOp.box 28 (SX.tmp 0))), SOper.mk (some 2) none (SOp.p (POp.move (SX.lit (AV.int IntKind.i64 0))))])
  (SCode.seq (SCode.ops [SOper.mk (some 3) none (SOp.p (POp.move (SX.lit (AV.int IntKind.i64 0))))])
  (SCode.seq (SCode.seq (SCode.ops [SOper.mk (some 4) none (SOp.p (POp.move (SX.lit (AV.int IntKind.i64 0))))])
  (SCode.block 0 (SCode.loop c24_l0)))
  (SCode.seq (SCode.ops [SOper.mk (some 48) none (SOp.p (POp.move (SX.tmp 3))), SOper.mk (some 2) none (SOp.p (POp.move (SX.tmp 48)))])
  SCode.ret)))), [ResV.tmp 2]⟩
theorem code24 (own : FuncId → Option (List AV → Heap → R)) (mode : FuncId → Nat) : (slimPrg Tryd.prog own mode).code 24 = some c24 := by kernel_rfl
-- thunk/thunkref5.Var
def c25 : SFunc := ⟨5, (SCode.seq (SCode.ops [SOper.mk (some 2) none (SOp.a (AOp.newc 28 [AV.int IntKind.i64 0, AV.str [], AV.nils, AV.nils]))])
  (SCode.seq (SCode.ops [SOper.mk (some 3) none (SOp.p (POp.move (SX.tmp 0))), SOper.mk (some 4) none (SOp.p (POp.build [AV.int IntKind.i64 0, AV.str [], AV.nils, AV.nils] [(0, 1, SX.lit (AV.int IntKind.i64 5)), (1, 1, SX.tmp 3)])), SOper.mk none none (SOp.w (WOp.store 4 (SX.tmp 2) (SX.tmp 4)))])
  SCode.ret)), [ResV.celln 2 4]⟩
theorem code25 (own : FuncId → Option (List AV → Heap → R)) (mode : FuncId → Nat) : (slimPrg Tryd.prog own mode).code 25 = some c25 := by kernel_rfl
-- thunk/thunkref5.Text
def c26_l0 : SCode :=
  (SCode.seq (SCode.seq (SCode.ops [SOper.mk (some 37) none (SOp.p (POp.move (SX.tmp 4))), SOper.mk (some 38) none (SOp.p (POp.faddr 2 (SX.tmp 1))), SOper.mk (some 39) none (SOp.p (POp.load1 (SX.tmp 38))), SOper.mk (some 40) none (SOp.p (POp.lenS (SX.tmp 39))), SOper.mk (some 41) none (SOp.p (POp.bin BinOp.lss EqT.none (SX.tmp 37) (SX.tmp 40)))])
  (SCode.cond (SX.tmp 41)
  SCode.skip
  (SCode.exit 1)))
  (SCode.seq (SCode.block 2 (SCode.seq (SCode.seq (SCode.ops [SOper.mk (some 44) none (SOp.p (POp.move (SX.tmp 4))), SOper.mk (some 45) none (SOp.p (POp.bin BinOp.gtr EqT.none (SX.tmp 44) (SX.lit (AV.int IntKind.i64 0))))])
  (SCode.cond (SX.tmp 45)
  (SCode.ops [SOper.mk (some 46) none (SOp.p (POp.move (SX.tmp 3))), SOper.mk (some 47) none (SOp.p (POp.bin BinOp.add EqT.none (SX.tmp 46) (SX.lit (AV.str [32])))), SOper.mk (some 3) none (SOp.p (POp.move (SX.tmp 47)))])
  SCode.skip))
  (SCode.draw [SOper.mk (some 48) none (SOp.p (POp.move (SX.tmp 3))), SOper.mk (some 49) none (SOp.p (POp.bin BinOp.add EqT.none (SX.tmp 48) (SX.lit (AV.str [40])))), SOper.mk (some 50) none (SOp.p (POp.faddr 2 (SX.tmp 1))), SOper.mk (some 51) none (SOp.p (POp.load1 (SX.tmp 50))), SOper.mk (some 52) none (SOp.p (POp.move (SX.tmp 4))), SOper.mk (some 53) none (SOp.p (POp.iaddr 1 (SX.tmp 51) (SX.tmp 52))), SOper.mk (some 54) none (SOp.p (POp.load1 (SX.tmp 53))), SOper.mk (some 55) none (SOp.p (POp.bin BinOp.add EqT.none (SX.tmp 49) (SX.tmp 54))), SOper.mk (some 56) none (SOp.p (POp.bin BinOp.add EqT.none (SX.tmp 55) (SX.lit (AV.str [32])))), SOper.mk (some 57) none (SOp.p (POp.faddr 3 (SX.tmp 1))), SOper.mk (some 58) none (SOp.p (POp.load1 (SX.tmp 57))), SOper.mk (some 59) none (SOp.p (POp.move (SX.tmp 4))), SOper.mk (some 60) none (SOp.p (POp.iaddr 4 (SX.tmp 58) (SX.tmp 59))), SOper.mk (some 61) none (SOp.p (POp.loadn 4 (SX.tmp 60)))] [(SOper.mk (some 62) none (SOp.call (SX.lit (AV.func 26 [])) [SX.tmp 61]), [SOper.mk (some 51) none (SOp.p (POp.load1 (SX.tmp 50))), SOper.mk (some 54) none (SOp.p (POp.load1 (SX.tmp 53)))], [SOper.mk (some 63) none (SOp.p (POp.bin BinOp.add EqT.none (SX.tmp 56) (SX.tmp 62))), SOper.mk (some 64) none (SOp.p (POp.bin BinOp.add EqT.none (SX.tmp 63) (SX.lit (AV.str [41])))), SOper.mk (some 3) none (SOp.p (POp.move (SX.tmp 64)))])])))
  (SCode.ops [SOper.mk (some 42) none (SOp.p (POp.move (SX.tmp 4))), SOper.mk (some 43) none (SOp.p (POp.bin BinOp.add EqT.none (SX.tmp 42) (SX.lit (AV.int IntKind.i64 1)))), SOper.mk (some 4) none (SOp.p (POp.move (SX.tmp 43)))])))
def c26 : SFunc := ⟨97, (SCode.seq (SCode.ops [SOper.mk (some 1) none (SOp.a (AOp.box 28 (SX.tmp 0))), SOper.mk (some 2) none (SOp.p (POp.move (SX.lit (AV.str []))))])
  (SCode.seq (SCode.seq (SCode.ops [SOper.mk (some 5) none (SOp.p (POp.faddr 0 (SX.tmp 1))), SOper.mk (some 6) none (SOp.p (POp.load1 (SX.tmp 5)))])
  (SCode.block 0 (SCode.seq (SCode.ops [SOper.mk (some 8) none (SOp.p (POp.bin BinOp.eql EqT.none (SX.tmp 6) (SX.lit (AV.int IntKind.i64 3)))), SOper.mk (some 7) none (SOp.p (POp.move (SX.tmp 8)))])
  (SCode.cond (SX.tmp 7)
  (SCode.seq (SCode.ops [SOper.mk (some 2) none (SOp.p (POp.move (SX.lit (AV.str [40, 41]))))])
  SCode.ret)
  (SCode.seq (SCode.ops [SOper.mk (some 10) none (SOp.p (POp.bin BinOp.eql EqT.none (SX.tmp 6) (SX.lit (AV.int IntKind.i64 4)))), SOper.mk (some 9) none (SOp.p (POp.move (SX.tmp 10)))])
  (SCode.cond (SX.tmp 9)
  (SCode.seq (SCode.ops [SOper.mk (some 11) none (SOp.p (POp.faddr 1 (SX.tmp 1))), SOper.mk (some 12) none (SOp.p (POp.load1 (SX.tmp 11))), SOper.mk (some 13) none (SOp.p (POp.bin BinOp.add EqT.none (SX.lit (AV.str [39])) (SX.tmp 12))), SOper.mk (some 2) none (SOp.p (POp.move (SX.tmp 13)))])
  SCode.ret)
  (SCode.seq (SCode.ops [SOper.mk (some 15) none (SOp.p (POp.bin BinOp.eql EqT.none (SX.tmp 6) (SX.lit (AV.int IntKind.i64 6)))), SOper.mk (some 14) none (SOp.p (POp.move (SX.tmp 15)))])
  (SCode.cond (SX.tmp 14)
  (SCode.seq (SCode.draw [SOper.mk (some 16) none (SOp.p (POp.faddr 2 (SX.tmp 1))), SOper.mk (some 17) none (SOp.p (POp.load1 (SX.tmp 16))), SOper.mk (some 21) none (SOp.p (POp.faddr 3 (SX.tmp 1))), SOper.mk (some 22) none (SOp.p (POp.load1 (SX.tmp 21))), SOper.mk (some 23) none (SOp.p (POp.iaddr 4 (SX.tmp 22) (SX.lit (AV.int IntKind.i64 0)))), SOper.mk (some 24) none (SOp.p (POp.loadn 4 (SX.tmp 23)))] [(SOper.mk (some 18) none (SOp.call (SX.lit (AV.func 28 [])) [SX.tmp 17]), [SOper.mk (some 22) none (SOp.p (POp.load1 (SX.tmp 21))), SOper.mk (some 24) none (SOp.p (POp.loadn 4 (SX.tmp 23)))], [SOper.mk (some 19) none (SOp.p (POp.bin BinOp.add EqT.none (SX.lit (AV.str [40, 108, 97, 109, 98, 100, 97, 32, 40])) (SX.tmp 18))), SOper.mk (some 20) none (SOp.p (POp.bin BinOp.add EqT.none (SX.tmp 19) (SX.lit (AV.str [41, 32]))))]), (SOper.mk (some 25) none (SOp.call (SX.lit (AV.func 26 [])) [SX.tmp 24]), [], [SOper.mk (some 26) none (SOp.p (POp.bin BinOp.add EqT.none (SX.tmp 20) (SX.tmp 25))), SOper.mk (some 27) none (SOp.p (POp.bin BinOp.add EqT.none (SX.tmp 26) (SX.lit (AV.str [41])))), SOper.mk (some 2) none (SOp.p (POp.move (SX.tmp 27)))])])
  SCode.ret)
  (SCode.seq (SCode.ops [SOper.mk (some 29) none (SOp.p (POp.bin BinOp.eql EqT.none (SX.tmp 6) (SX.lit (AV.int IntKind.i64 8)))), SOper.mk (some 28) none (SOp.p (POp.move (SX.tmp 29)))])
  (SCode.cond (SX.tmp 28)
  (SCode.seq (SCode.ops [SOper.mk (some 30) none (SOp.p (POp.faddr 3 (SX.tmp 1))), SOper.mk (some 31) none (SOp.p (POp.load1 (SX.tmp 30))), SOper.mk (some 32) none (SOp.call (SX.lit (AV.func 44 [])) [SX.tmp 31]), SOper.mk (some 33) none (SOp.p (POp.bin BinOp.add EqT.none (SX.lit (AV.str [40, 105, 102, 32])) (SX.tmp 32))), SOper.mk (some 34) none (SOp.p (POp.bin BinOp.add EqT.none (SX.tmp 33) (SX.lit (AV.str [41])))), SOper.mk (some 2) none (SOp.p (POp.move (SX.tmp 34)))])
  SCode.ret)
  (SCode.seq (SCode.ops [SOper.mk (some 36) none (SOp.p (POp.bin BinOp.eql EqT.none (SX.tmp 6) (SX.lit (AV.int IntKind.i64 9)))), SOper.mk (some 35) none (SOp.p (POp.move (SX.tmp 36)))])
  (SCode.cond (SX.tmp 35)
  (SCode.seq (SCode.ops [SOper.mk (some 3) none (SOp.p (POp.move (SX.lit (AV.str [40, 108, 101, 116, 32, 40]))))])
  (SCode.seq (SCode.seq (SCode.ops [SOper.mk (some 4) none (SOp.p (POp.move (SX.lit (AV.int IntKind.i64 0))))])
  (SCode.block 1 (SCode.loop c26_l0)))
  (SCode.seq (SCode.ops [SOper.mk (some 65) none (SOp.p (POp.move (SX.tmp 3))), SOper.mk (some 66) none (SOp.p (POp.bin BinOp.add EqT.none (SX.tmp 65) (SX.lit (AV.str [41, 32])))), SOper.mk (some 67) none (SOp.p (POp.faddr 3 (SX.tmp 1))), SOper.mk (some 68) none (SOp.p (POp.load1 (SX.tmp 67))), SOper.mk (some 69) none (SOp.p (POp.faddr 2 (SX.tmp 1))), SOper.mk (some 70) none (SOp.p (POp.load1 (SX.tmp 69))), SOper.mk (some 71) none (SOp.p (POp.lenS (SX.tmp 70))), SOper.mk (some 72) none (SOp.p (POp.iaddr 4 (SX.tmp 68) (SX.tmp 71))), SOper.mk (some 73) none (SOp.p (POp.loadn 4 (SX.tmp 72))), SOper.mk (some 74) none (SOp.call (SX.lit (AV.func 26 [])) [SX.tmp 73]), SOper.mk (some 75) none (SOp.p (POp.bin BinOp.add EqT.none (SX.tmp 66) (SX.tmp 74))), SOper.mk (some 76) none (SOp.p (POp.bin BinOp.add EqT.none (SX.tmp 75) (SX.lit (AV.str [41])))), SOper.mk (some 2) none (SOp.p (POp.move (SX.tmp 76)))])
  SCode.ret)))
  (SCode.seq (SCode.ops [SOper.mk (some 78) none (SOp.p (POp.bin BinOp.eql EqT.none (SX.tmp 6) (SX.lit (AV.int IntKind.i64 10)))), SOper.mk (some 77) none (SOp.p (POp.move (SX.tmp 78)))])
  (SCode.cond (SX.tmp 77)
  (SCode.seq (SCode.draw [SOper.mk (some 79) none (SOp.p (POp.faddr 1 (SX.tmp 1))), SOper.mk (some 80) none (SOp.p (POp.load1 (SX.tmp 79))), SOper.mk (some 81) none (SOp.p (POp.bin BinOp.add EqT.none (SX.lit (AV.str [40])) (SX.tmp 80))), SOper.mk (some 82) none (SOp.p (POp.bin BinOp.add EqT.none (SX.tmp 81) (SX.lit (AV.str [32])))), SOper.mk (some 83) none (SOp.p (POp.faddr 3 (SX.tmp 1))), SOper.mk (some 84) none (SOp.p (POp.load1 (SX.tmp 83)))] [(SOper.mk (some 85) none (SOp.call (SX.lit (AV.func 44 [])) [SX.tmp 84]), [SOper.mk (some 80) none (SOp.p (POp.load1 (SX.tmp 79)))], [SOper.mk (some 86) none (SOp.p (POp.bin BinOp.add EqT.none (SX.tmp 82) (SX.tmp 85))), SOper.mk (some 87) none (SOp.p (POp.bin BinOp.add EqT.none (SX.tmp 86) (SX.lit (AV.str [41])))), SOper.mk (some 2) none (SOp.p (POp.move (SX.tmp 87)))])])
  SCode.ret)
  (SCode.seq (SCode.ops [SOper.mk (some 89) none (SOp.p (POp.bin BinOp.eql EqT.none (SX.tmp 6) (SX.lit (AV.int IntKind.i64 7)))), SOper.mk (some 88) none (SOp.p (POp.move (SX.tmp 89)))])
  (SCode.cond (SX.tmp 88)
  (SCode.seq (SCode.ops [SOper.mk (some 90) none (SOp.p (POp.faddr 3 (SX.tmp 1))), SOper.mk (some 91) none (SOp.p (POp.load1 (SX.tmp 90))), SOper.mk (some 92) none (SOp.call (SX.lit (AV.func 44 [])) [SX.tmp 91]), SOper.mk (some 93) none (SOp.p (POp.bin BinOp.add EqT.none (SX.lit (AV.str [40])) (SX.tmp 92))), SOper.mk (some 94) none (SOp.p (POp.bin BinOp.add EqT.none (SX.tmp 93) (SX.lit (AV.str [41])))), SOper.mk (some 2) none (SOp.p (POp.move (SX.tmp 94)))])
  SCode.ret)
  SCode.skip))))))))))))))))
  (SCode.seq (SCode.ops [SOper.mk (some 95) none (SOp.p (POp.faddr 1 (SX.tmp 1))), SOper.mk (some 96) none (SOp.p (POp.load1 (SX.tmp 95))), SOper.mk (some 2) none (SOp.p (POp.move (SX.tmp 96)))])
  SCode.ret))), [ResV.tmp 2]⟩
theorem code26 (own : FuncId → Option (List AV → Heap → R)) (mode : FuncId → Nat) : (slimPrg Tryd.prog own mode).code 26 = some c26 := by kernel_rfl
-- thunk/thunkref5.Bind
def c27 : SFunc := ⟨13, (SCode.seq (SCode.ops [SOper.mk (some 4) none (SOp.a (AOp.box 28 (SX.tmp 1))), SOper.mk (some 5) none (SOp.a (AOp.box 28 (SX.tmp 2))), SOper.mk (some 6) none (SOp.a (AOp.newc 28 [AV.int IntKind.i64 0, AV.str [], AV.nils, AV.nils]))])
  (SCode.seq (SCode.ops [SOper.mk (some 7) none (SOp.p (POp.move (SX.tmp 0))), SOper.mk (some 8) none (SOp.a (AOp.buildS [AV.str []] 1 [(0, 1, SX.tmp 7)])), SOper.mk (some 9) none (SOp.p (POp.loadn 4 (SX.tmp 4))), SOper.mk (some 10) none (SOp.p (POp.loadn 4 (SX.tmp 5))), SOper.mk (some 11) none (SOp.a (AOp.buildS [AV.int IntKind.i64 0, AV.str [], AV.nils, AV.nils, AV.int IntKind.i64 0, AV.str [], AV.nils, AV.nils] 2 [(0, 4, SX.tmp 9), (4, 4, SX.tmp 10)])), SOper.mk (some 12) none (SOp.p (POp.build [AV.int IntKind.i64 0, AV.str [], AV.nils, AV.nils] [(0, 1, SX.lit (AV.int IntKind.i64 9)), (2, 1, SX.tmp 8), (3, 1, SX.tmp 11)])), SOper.mk none none (SOp.w (WOp.store 4 (SX.tmp 6) (SX.tmp 12)))])
  SCode.ret)), [ResV.celln 6 4]⟩
theorem code27 (own : FuncId → Option (List AV → Heap → R)) (mode : FuncId → Nat) : (slimPrg Tryd.prog own mode).code 27 = some c27 := by kernel_rfl
-- thunk/thunkref5.Names
def c28_l0 : SCode :=
  (SCode.seq (SCode.seq (SCode.ops [SOper.mk (some 5) none (SOp.p (POp.move (SX.tmp 4))), SOper.mk (some 6) none (SOp.p (POp.move (SX.tmp 0))), SOper.mk (some 7) none (SOp.p (POp.lenS (SX.tmp 6))), SOper.mk (some 8) none (SOp.p (POp.bin BinOp.lss EqT.none (SX.tmp 5) (SX.tmp 7)))])
  (SCode.cond (SX.tmp 8)
  SCode.skip
  (SCode.exit 0)))
  (SCode.seq (SCode.block 1 (SCode.seq (SCode.seq (SCode.ops [SOper.mk (some 11) none (SOp.p (POp.move (SX.tmp 4))), SOper.mk (some 12) none (SOp.p (POp.bin BinOp.gtr EqT.none (SX.tmp 11) (SX.lit (AV.int IntKind.i64 0))))])
  (SCode.cond (SX.tmp 12)
  (SCode.ops [SOper.mk (some 13) none (SOp.p (POp.move (SX.tmp 3))), SOper.mk (some 14) none (SOp.p (POp.bin BinOp.add EqT.none (SX.tmp 13) (SX.lit (AV.str [32])))), SOper.mk (some 3) none (SOp.p (POp.move (SX.tmp 14)))])
  SCode.skip))
  (SCode.ops [SOper.mk (some 15) none (SOp.p (POp.move (SX.tmp 3))), SOper.mk (some 16) none (SOp.p (POp.move (SX.tmp 0))), SOper.mk (some 17) none (SOp.p (POp.move (SX.tmp 4))), SOper.mk (some 18) none (SOp.p (POp.iaddr 1 (SX.tmp 16) (SX.tmp 17))), SOper.mk (some 19) none (SOp.p (POp.load1 (SX.tmp 18))), SOper.mk (some 20) none (SOp.p (POp.bin BinOp.add EqT.none (SX.tmp 15) (SX.tmp 19))), SOper.mk (some 3) none (SOp.p (POp.move (SX.tmp 20)))])))
  (SCode.ops [SOper.mk (some 9) none (SOp.p (POp.move (SX.tmp 4))), SOper.mk (some 10) none (SOp.p (POp.bin BinOp.add EqT.none (SX.tmp 9) (SX.lit (AV.int IntKind.i64 1)))), SOper.mk (some 4) none (SOp.p (POp.move (SX.tmp 10)))])))
def c28 : SFunc := ⟨22, (SCode.seq (SCode.ops [SOper.mk (some 2) none (SOp.p (POp.move (SX.lit (AV.str []))))])
  (SCode.seq (SCode.ops [SOper.mk (some 3) none (SOp.p (POp.move (SX.lit (AV.str []))))])
  (SCode.seq (SCode.seq (SCode.ops [SOper.mk (some 4) none (SOp.p (POp.move (SX.lit (AV.int IntKind.i64 0))))])
  (SCode.block 0 (SCode.loop c28_l0)))
  (SCode.seq (SCode.ops [SOper.mk (some 21) none (SOp.p (POp.move (SX.tmp 3))), SOper.mk (some 2) none (SOp.p (POp.move (SX.tmp 21)))])
  SCode.ret)))), [ResV.tmp 2]⟩
theorem code28 (own : FuncId → Option (List AV → Heap → R)) (mode : FuncId → Nat) : (slimPrg Tryd.prog own mode).code 28 = some c28 := by kernel_rfl
-- thunk/thunklaw5.size
def c29_l0 : SCode :=
  (SCode.seq (SCode.seq (SCode.ops [SOper.mk (some 9) none (SOp.p (POp.move (SX.tmp 6))), SOper.mk (some 10) none (SOp.p (POp.move (SX.tmp 0))), SOper.mk (some 11) none (SOp.p (POp.lenS (SX.tmp 10))), SOper.mk (some 12) none (SOp.p (POp.bin BinOp.lss EqT.none (SX.tmp 9) (SX.tmp 11))), SOper.mk (some 13) none (SOp.p (POp.move (SX.tmp 12))), SOper.mk (some 14) (some (13, true)) (SOp.p (POp.move (SX.tmp 5))), SOper.mk (some 15) (some (13, true)) (SOp.p (POp.bin BinOp.leq EqT.none (SX.tmp 14) (SX.lit (AV.int IntKind.i64 40)))), SOper.mk (some 16) none (SOp.p (POp.pick (SX.tmp 13) (SX.tmp 15) (SX.lit (AV.bool false))))])
  (SCode.cond (SX.tmp 16)
  SCode.skip
  (SCode.exit 0)))
  (SCode.seq (SCode.block 1 (SCode.ops [SOper.mk (some 19) none (SOp.p (POp.move (SX.tmp 5))), SOper.mk (some 20) none (SOp.p (POp.bin BinOp.add EqT.none (SX.tmp 19) (SX.lit (AV.int IntKind.i64 1)))), SOper.mk (some 21) none (SOp.p (POp.move (SX.tmp 0))), SOper.mk (some 22) none (SOp.p (POp.move (SX.tmp 6))), SOper.mk (some 23) none (SOp.p (POp.iaddr 3 (SX.tmp 21) (SX.tmp 22))), SOper.mk (some 24) none (SOp.p (POp.faddr 2 (SX.tmp 23))), SOper.mk (some 25) none (SOp.p (POp.load1 (SX.tmp 24))), SOper.mk (some 26) none (SOp.p (POp.move (SX.tmp 1))), SOper.mk (some 27) none (SOp.p (POp.bin BinOp.add EqT.none (SX.tmp 26) (SX.lit (AV.int IntKind.i64 1)))), SOper.mk (some 28) none (SOp.call (SX.lit (AV.func 29 [])) [SX.tmp 25, SX.tmp 27]), SOper.mk (some 29) none (SOp.p (POp.bin BinOp.add EqT.none (SX.tmp 20) (SX.tmp 28))), SOper.mk (some 5) none (SOp.p (POp.move (SX.tmp 29)))]))
  (SCode.ops [SOper.mk (some 17) none (SOp.p (POp.move (SX.tmp 6))), SOper.mk (some 18) none (SOp.p (POp.bin BinOp.add EqT.none (SX.tmp 17) (SX.lit (AV.int IntKind.i64 1)))), SOper.mk (some 6) none (SOp.p (POp.move (SX.tmp 18)))])))
def c29 : SFunc := ⟨31, (SCode.seq (SCode.ops [SOper.mk (some 4) none (SOp.p (POp.move (SX.lit (AV.int IntKind.i64 0))))])
  (SCode.seq (SCode.seq (SCode.ops [SOper.mk (some 7) none (SOp.p (POp.move (SX.tmp 1))), SOper.mk (some 8) none (SOp.p (POp.bin BinOp.gtr EqT.none (SX.tmp 7) (SX.lit (AV.int IntKind.i64 12))))])
  (SCode.cond (SX.tmp 8)
  (SCode.seq (SCode.ops [SOper.mk (some 4) none (SOp.p (POp.move (SX.lit (AV.int IntKind.i64 1000))))])
  SCode.ret)
  SCode.skip))
  (SCode.seq (SCode.ops [SOper.mk (some 5) none (SOp.p (POp.move (SX.lit (AV.int IntKind.i64 0))))])
  (SCode.seq (SCode.seq (SCode.ops [SOper.mk (some 6) none (SOp.p (POp.move (SX.lit (AV.int IntKind.i64 0))))])
  (SCode.block 0 (SCode.loop c29_l0)))
  (SCode.seq (SCode.ops [SOper.mk (some 30) none (SOp.p (POp.move (SX.tmp 5))), SOper.mk (some 4) none (SOp.p (POp.move (SX.tmp 30)))])
  SCode.ret))))), [ResV.tmp 4]⟩
theorem code29 (own : FuncId → Option (List AV → Heap → R)) (mode : FuncId → Nat) : (slimPrg Tryd.prog own mode).code 29 = some c29 := by kernel_rfl
-- (*thunk/thunklaw5.Maker).Make
def c30_l0 : SCode :=
  (SCode.seq (SCode.seq (SCode.ops [SOper.mk (some 69) none (SOp.p (POp.move (SX.tmp 9))), SOper.mk (some 70) none (SOp.p (POp.faddr 1 (SX.tmp 4))), SOper.mk (some 71) none (SOp.p (POp.load1 (SX.tmp 70))), SOper.mk (some 72) none (SOp.call (SX.lit (AV.func 45 [])) [SX.tmp 71, SX.lit (AV.int IntKind.i64 2)]), SOper.mk (some 73) none (SOp.p (POp.bin BinOp.leq EqT.none (SX.tmp 69) (SX.tmp 72)))])
  (SCode.cond (SX.tmp 73)
  SCode.skip
  (SCode.exit 1)))
  (SCode.seq (SCode.block 2 (SCode.seq (SCode.ops [SOper.mk (some 76) none (SOp.p (POp.move (SX.tmp 0))), SOper.mk (some 77) none (SOp.call (SX.lit (AV.func 31 [])) [SX.tmp 76]), SOper.mk (some 10) none (SOp.p (POp.move (SX.tmp 77)))])
  (SCode.ops [SOper.mk (some 78) none (SOp.p (POp.faddr 2 (SX.tmp 7))), SOper.mk (some 79) none (SOp.p (POp.load1 (SX.tmp 78))), SOper.mk (some 80) none (SOp.p (POp.move (SX.tmp 10))), SOper.mk (some 81) none (SOp.a (AOp.buildS [AV.str []] 1 [(0, 1, SX.tmp 80)])), SOper.mk (some 82) none (SOp.w (WOp.append 9 1 16 (SX.tmp 79) (SX.tmp 81))), SOper.mk (some 83) none (SOp.p (POp.move (SX.tmp 8))), SOper.mk (some 84) none (SOp.p (POp.move (SX.tmp 10))), SOper.mk (some 85) none (SOp.a (AOp.buildS [AV.str []] 1 [(0, 1, SX.tmp 84)])), SOper.mk (some 86) none (SOp.w (WOp.append 9 1 16 (SX.tmp 83) (SX.tmp 85))), SOper.mk (some 87) none (SOp.p (POp.faddr 2 (SX.tmp 7))), SOper.mk none none (SOp.w (WOp.store 1 (SX.tmp 87) (SX.tmp 82))), SOper.mk (some 8) none (SOp.p (POp.move (SX.tmp 86)))])))
  (SCode.ops [SOper.mk (some 74) none (SOp.p (POp.move (SX.tmp 9))), SOper.mk (some 75) none (SOp.p (POp.bin BinOp.add EqT.none (SX.tmp 74) (SX.lit (AV.int IntKind.i64 1)))), SOper.mk (some 9) none (SOp.p (POp.move (SX.tmp 75)))])))
def c30_l1 : SCode :=
  (SCode.seq (SCode.seq (SCode.ops [SOper.mk (some 100) none (SOp.p (POp.move (SX.tmp 12))), SOper.mk (some 101) none (SOp.p (POp.faddr 1 (SX.tmp 4))), SOper.mk (some 102) none (SOp.p (POp.load1 (SX.tmp 101))), SOper.mk (some 103) none (SOp.call (SX.lit (AV.func 45 [])) [SX.tmp 102, SX.lit (AV.int IntKind.i64 2)]), SOper.mk (some 104) none (SOp.p (POp.bin BinOp.add EqT.none (SX.lit (AV.int IntKind.i64 2)) (SX.tmp 103))), SOper.mk (some 105) none (SOp.p (POp.bin BinOp.lss EqT.none (SX.tmp 100) (SX.tmp 104)))])
  (SCode.cond (SX.tmp 105)
  SCode.skip
  (SCode.exit 3)))
  (SCode.seq (SCode.block 4 (SCode.draw [SOper.mk (some 108) none (SOp.p (POp.faddr 3 (SX.tmp 11))), SOper.mk (some 109) none (SOp.p (POp.load1 (SX.tmp 108))), SOper.mk (some 110) none (SOp.p (POp.move (SX.tmp 0))), SOper.mk (some 111) none (SOp.p (POp.loadn 3 (SX.tmp 4))), SOper.mk (some 112) none (SOp.p (POp.move (SX.tmp 12))), SOper.mk (some 113) none (SOp.p (POp.move (SX.tmp 2)))] [(SOper.mk (some 114) none (SOp.call (SX.lit (AV.func 46 [])) [SX.tmp 110, SX.tmp 111, SX.tmp 112, SX.tmp 113]), [SOper.mk (some 109) none (SOp.p (POp.load1 (SX.tmp 108)))], [SOper.mk (some 115) none (SOp.a (AOp.buildS [AV.int IntKind.i64 0, AV.str [], AV.nils, AV.nils] 1 [(0, 4, SX.tmp 114)]))]), (SOper.mk (some 116) none (SOp.w (WOp.append 28 4 72 (SX.tmp 109) (SX.tmp 115))), [], [SOper.mk (some 117) none (SOp.p (POp.faddr 3 (SX.tmp 11)))]), (SOper.mk none none (SOp.w (WOp.store 1 (SX.tmp 117) (SX.tmp 116))), [], [])]))
  (SCode.ops [SOper.mk (some 106) none (SOp.p (POp.move (SX.tmp 12))), SOper.mk (some 107) none (SOp.p (POp.bin BinOp.add EqT.none (SX.tmp 106) (SX.lit (AV.int IntKind.i64 1)))), SOper.mk (some 12) none (SOp.p (POp.move (SX.tmp 107)))])))
def c30_l2 : SCode :=
  (SCode.seq (SCode.seq (SCode.ops [SOper.mk (some 147) none (SOp.p (POp.move (SX.tmp 16))), SOper.mk (some 148) none (SOp.p (POp.move (SX.tmp 15))), SOper.mk (some 149) none (SOp.p (POp.bin BinOp.lss EqT.none (SX.tmp 147) (SX.tmp 148)))])
  (SCode.cond (SX.tmp 149)
  SCode.skip
  (SCode.exit 5)))
  (SCode.seq (SCode.block 6 (SCode.seq (SCode.ops [SOper.mk (some 152) none (SOp.p (POp.move (SX.tmp 0))), SOper.mk (some 153) none (SOp.call (SX.lit (AV.func 31 [])) [SX.tmp 152]), SOper.mk (some 17) none (SOp.p (POp.move (SX.tmp 153)))])
  (SCode.ops [SOper.mk (some 154) none (SOp.p (POp.faddr 2 (SX.tmp 13))), SOper.mk (some 155) none (SOp.p (POp.load1 (SX.tmp 154))), SOper.mk (some 156) none (SOp.p (POp.move (SX.tmp 17))), SOper.mk (some 157) none (SOp.a (AOp.buildS [AV.str []] 1 [(0, 1, SX.tmp 156)])), SOper.mk (some 158) none (SOp.w (WOp.append 9 1 16 (SX.tmp 155) (SX.tmp 157))), SOper.mk (some 159) none (SOp.p (POp.move (SX.tmp 14))), SOper.mk (some 160) none (SOp.p (POp.move (SX.tmp 17))), SOper.mk (some 161) none (SOp.a (AOp.buildS [AV.str []] 1 [(0, 1, SX.tmp 160)])), SOper.mk (some 162) none (SOp.w (WOp.append 9 1 16 (SX.tmp 159) (SX.tmp 161))), SOper.mk (some 163) none (SOp.p (POp.faddr 2 (SX.tmp 13))), SOper.mk none none (SOp.w (WOp.store 1 (SX.tmp 163) (SX.tmp 158))), SOper.mk (some 14) none (SOp.p (POp.move (SX.tmp 162)))])))
  (SCode.ops [SOper.mk (some 150) none (SOp.p (POp.move (SX.tmp 16))), SOper.mk (some 151) none (SOp.p (POp.bin BinOp.add EqT.none (SX.tmp 150) (SX.lit (AV.int IntKind.i64 1)))), SOper.mk (some 16) none (SOp.p (POp.move (SX.tmp 151)))])))
def c30_l3 : SCode :=
  (SCode.seq (SCode.seq (SCode.ops [SOper.mk (some 164) none (SOp.p (POp.move (SX.tmp 18))), SOper.mk (some 165) none (SOp.p (POp.move (SX.tmp 15))), SOper.mk (some 166) none (SOp.p (POp.bin BinOp.leq EqT.none (SX.tmp 164) (SX.tmp 165)))])
  (SCode.cond (SX.tmp 166)
  SCode.skip
  (SCode.exit 7)))
  (SCode.seq (SCode.block 8 (SCode.draw [SOper.mk (some 169) none (SOp.p (POp.faddr 3 (SX.tmp 13))), SOper.mk (some 170) none (SOp.p (POp.load1 (SX.tmp 169))), SOper.mk (some 171) none (SOp.p (POp.move (SX.tmp 0))), SOper.mk (some 172) none (SOp.p (POp.loadn 3 (SX.tmp 4))), SOper.mk (some 173) none (SOp.p (POp.move (SX.tmp 18))), SOper.mk (some 174) none (SOp.p (POp.move (SX.tmp 14)))] [(SOper.mk (some 175) none (SOp.call (SX.lit (AV.func 46 [])) [SX.tmp 171, SX.tmp 172, SX.tmp 173, SX.tmp 174]), [SOper.mk (some 170) none (SOp.p (POp.load1 (SX.tmp 169)))], [SOper.mk (some 176) none (SOp.a (AOp.buildS [AV.int IntKind.i64 0, AV.str [], AV.nils, AV.nils] 1 [(0, 4, SX.tmp 175)]))]), (SOper.mk (some 177) none (SOp.w (WOp.append 28 4 72 (SX.tmp 170) (SX.tmp 176))), [], [SOper.mk (some 178) none (SOp.p (POp.faddr 3 (SX.tmp 13)))]), (SOper.mk none none (SOp.w (WOp.store 1 (SX.tmp 178) (SX.tmp 177))), [], [])]))
  (SCode.ops [SOper.mk (some 167) none (SOp.p (POp.move (SX.tmp 18))), SOper.mk (some 168) none (SOp.p (POp.bin BinOp.add EqT.none (SX.tmp 167) (SX.lit (AV.int IntKind.i64 1)))), SOper.mk (some 18) none (SOp.p (POp.move (SX.tmp 168)))])))
def c30_l4 : SCode :=
  (SCode.seq (SCode.seq (SCode.ops [SOper.mk (some 190) none (SOp.p (POp.move (SX.tmp 21))), SOper.mk (some 191) none (SOp.p (POp.faddr 1 (SX.tmp 20))), SOper.mk (some 192) none (SOp.p (POp.load1 (SX.tmp 191))), SOper.mk (some 193) none (SOp.call (SX.lit (AV.func 47 [])) [SX.tmp 192]), SOper.mk (some 194) none (SOp.p (POp.bin BinOp.lss EqT.none (SX.tmp 190) (SX.tmp 193)))])
  (SCode.cond (SX.tmp 194)
  SCode.skip
  (SCode.exit 9)))
  (SCode.seq (SCode.block 10 (SCode.draw [SOper.mk (some 197) none (SOp.p (POp.faddr 3 (SX.tmp 20))), SOper.mk (some 198) none (SOp.p (POp.load1 (SX.tmp 197))), SOper.mk (some 199) none (SOp.p (POp.move (SX.tmp 0))), SOper.mk (some 200) none (SOp.p (POp.loadn 3 (SX.tmp 4))), SOper.mk (some 201) none (SOp.p (POp.move (SX.tmp 21))), SOper.mk (some 202) none (SOp.p (POp.move (SX.tmp 2)))] [(SOper.mk (some 203) none (SOp.call (SX.lit (AV.func 46 [])) [SX.tmp 199, SX.tmp 200, SX.tmp 201, SX.tmp 202]), [SOper.mk (some 198) none (SOp.p (POp.load1 (SX.tmp 197)))], [SOper.mk (some 204) none (SOp.a (AOp.buildS [AV.int IntKind.i64 0, AV.str [], AV.nils, AV.nils] 1 [(0, 4, SX.tmp 203)]))]), (SOper.mk (some 205) none (SOp.w (WOp.append 28 4 72 (SX.tmp 198) (SX.tmp 204))), [], [SOper.mk (some 206) none (SOp.p (POp.faddr 3 (SX.tmp 20)))]), (SOper.mk none none (SOp.w (WOp.store 1 (SX.tmp 206) (SX.tmp 205))), [], [])]))
  (SCode.ops [SOper.mk (some 195) none (SOp.p (POp.move (SX.tmp 21))), SOper.mk (some 196) none (SOp.p (POp.bin BinOp.add EqT.none (SX.tmp 195) (SX.lit (AV.int IntKind.i64 1)))), SOper.mk (some 21) none (SOp.p (POp.move (SX.tmp 196)))])))
def c30 : SFunc := ⟨208, (SCode.seq (SCode.ops [SOper.mk (some 4) none (SOp.a (AOp.box 53 (SX.tmp 1))), SOper.mk (some 6) none (SOp.a (AOp.newc 28 [AV.int IntKind.i64 0, AV.str [], AV.nils, AV.nils]))])
  (SCode.seq (SCode.seq (SCode.ops [SOper.mk (some 22) none (SOp.p (POp.faddr 0 (SX.tmp 4))), SOper.mk (some 23) none (SOp.p (POp.load1 (SX.tmp 22))), SOper.mk (some 24) none (SOp.call (SX.lit (AV.func 45 [])) [SX.tmp 23, SX.lit (AV.int IntKind.i64 16)])])
  (SCode.block 0 (SCode.seq (SCode.ops [SOper.mk (some 26) none (SOp.p (POp.bin BinOp.eql EqT.none (SX.tmp 24) (SX.lit (AV.int IntKind.i64 0)))), SOper.mk (some 25) none (SOp.p (POp.move (SX.tmp 26)))])
  (SCode.cond (SX.tmp 25)
  (SCode.seq (SCode.ops [SOper.mk (some 27) none (SOp.a (AOp.buildS [AV.str [], AV.str [], AV.str [], AV.str [], AV.str []] 5 [(0, 1, SX.lit (AV.str [48])), (1, 1, SX.lit (AV.str [49])), (2, 1, SX.lit (AV.str [45, 53])), (3, 1, SX.lit (AV.str [55])), (4, 1, SX.lit (AV.str [49, 48, 48, 48, 48, 48, 48, 48, 48, 48, 48, 48, 48, 48, 48, 48, 48, 48, 48, 48, 48]))])), SOper.mk (some 28) none (SOp.p (POp.faddr 1 (SX.tmp 4))), SOper.mk (some 29) none (SOp.p (POp.load1 (SX.tmp 28))), SOper.mk (some 30) none (SOp.call (SX.lit (AV.func 45 [])) [SX.tmp 29, SX.lit (AV.int IntKind.i64 5)]), SOper.mk (some 31) none (SOp.p (POp.iaddr 1 (SX.tmp 27) (SX.tmp 30))), SOper.mk (some 32) none (SOp.p (POp.load1 (SX.tmp 31))), SOper.mk (some 33) none (SOp.p (POp.build [AV.int IntKind.i64 0, AV.str [], AV.nils, AV.nils] [(0, 1, SX.lit (AV.int IntKind.i64 1)), (1, 1, SX.tmp 32)])), SOper.mk none none (SOp.w (WOp.store 4 (SX.tmp 6) (SX.tmp 33)))])
  SCode.ret)
  (SCode.seq (SCode.ops [SOper.mk (some 35) none (SOp.p (POp.bin BinOp.eql EqT.none (SX.tmp 24) (SX.lit (AV.int IntKind.i64 1)))), SOper.mk (some 34) none (SOp.p (POp.move (SX.tmp 35)))])
  (SCode.cond (SX.tmp 34)
  (SCode.seq (SCode.ops [SOper.mk (some 36) none (SOp.p (POp.build [AV.int IntKind.i64 0, AV.str [], AV.nils, AV.nils] [(0, 1, SX.lit (AV.int IntKind.i64 2)), (1, 1, SX.lit (AV.str [35, 116]))])), SOper.mk (some 37) none (SOp.p (POp.build [AV.int IntKind.i64 0, AV.str [], AV.nils, AV.nils] [(0, 1, SX.lit (AV.int IntKind.i64 2)), (1, 1, SX.lit (AV.str [35, 102]))])), SOper.mk (some 38) none (SOp.p (POp.build [AV.int IntKind.i64 0, AV.str [], AV.nils, AV.nils] [(0, 1, SX.lit (AV.int IntKind.i64 3))])), SOper.mk (some 39) none (SOp.p (POp.build [AV.int IntKind.i64 0, AV.str [], AV.nils, AV.nils] [(0, 1, SX.lit (AV.int IntKind.i64 4)), (1, 1, SX.lit (AV.str [115]))])), SOper.mk (some 40) none (SOp.a (AOp.buildS [AV.int IntKind.i64 0, AV.str [], AV.nils, AV.nils, AV.int IntKind.i64 0, AV.str [], AV.nils, AV.nils, AV.int IntKind.i64 0, AV.str [], AV.nils, AV.nils, AV.int IntKind.i64 0, AV.str [], AV.nils, AV.nils] 4 [(0, 4, SX.tmp 36), (4, 4, SX.tmp 37), (8, 4, SX.tmp 38), (12, 4, SX.tmp 39)])), SOper.mk (some 41) none (SOp.p (POp.faddr 1 (SX.tmp 4))), SOper.mk (some 42) none (SOp.p (POp.load1 (SX.tmp 41))), SOper.mk (some 43) none (SOp.call (SX.lit (AV.func 45 [])) [SX.tmp 42, SX.lit (AV.int IntKind.i64 4)]), SOper.mk (some 44) none (SOp.p (POp.iaddr 4 (SX.tmp 40) (SX.tmp 43))), SOper.mk (some 45) none (SOp.p (POp.loadn 4 (SX.tmp 44))), SOper.mk none none (SOp.w (WOp.store 4 (SX.tmp 6) (SX.tmp 45)))])
  SCode.ret)
  (SCode.seq (SCode.seq (SCode.ops [SOper.mk (some 47) none (SOp.p (POp.bin BinOp.eql EqT.none (SX.tmp 24) (SX.lit (AV.int IntKind.i64 2)))), SOper.mk (some 46) none (SOp.p (POp.move (SX.tmp 47)))])
  (SCode.cond (SX.tmp 46)
  SCode.skip
  (SCode.ops [SOper.mk (some 48) none (SOp.p (POp.bin BinOp.eql EqT.none (SX.tmp 24) (SX.lit (AV.int IntKind.i64 3)))), SOper.mk (some 46) none (SOp.p (POp.move (SX.tmp 48)))])))
  (SCode.cond (SX.tmp 46)
  (SCode.seq (SCode.seq (SCode.ops [SOper.mk (some 49) none (SOp.p (POp.move (SX.tmp 2))), SOper.mk (some 50) none (SOp.p (POp.lenS (SX.tmp 49))), SOper.mk (some 51) none (SOp.p (POp.bin BinOp.gtr EqT.none (SX.tmp 50) (SX.lit (AV.int IntKind.i64 0))))])
  (SCode.cond (SX.tmp 51)
  (SCode.seq (SCode.ops [SOper.mk (some 52) none (SOp.p (POp.move (SX.tmp 2))), SOper.mk (some 53) none (SOp.p (POp.faddr 1 (SX.tmp 4))), SOper.mk (some 54) none (SOp.p (POp.load1 (SX.tmp 53))), SOper.mk (some 55) none (SOp.p (POp.move (SX.tmp 2))), SOper.mk (some 56) none (SOp.p (POp.lenS (SX.tmp 55))), SOper.mk (some 57) none (SOp.call (SX.lit (AV.func 45 [])) [SX.tmp 54, SX.tmp 56]), SOper.mk (some 58) none (SOp.p (POp.iaddr 1 (SX.tmp 52) (SX.tmp 57))), SOper.mk (some 59) none (SOp.p (POp.load1 (SX.tmp 58))), SOper.mk (some 60) none (SOp.call (SX.lit (AV.func 25 [])) [SX.tmp 59]), SOper.mk none none (SOp.w (WOp.store 4 (SX.tmp 6) (SX.tmp 60)))])
  SCode.ret)
  SCode.skip))
  (SCode.seq (SCode.ops [SOper.mk (some 61) none (SOp.p (POp.build [AV.int IntKind.i64 0, AV.str [], AV.nils, AV.nils] [(0, 1, SX.lit (AV.int IntKind.i64 3))])), SOper.mk none none (SOp.w (WOp.store 4 (SX.tmp 6) (SX.tmp 61)))])
  SCode.ret))
  (SCode.seq (SCode.seq (SCode.ops [SOper.mk (some 63) none (SOp.p (POp.bin BinOp.eql EqT.none (SX.tmp 24) (SX.lit (AV.int IntKind.i64 4)))), SOper.mk (some 62) none (SOp.p (POp.move (SX.tmp 63)))])
  (SCode.cond (SX.tmp 62)
  SCode.skip
  (SCode.ops [SOper.mk (some 64) none (SOp.p (POp.bin BinOp.eql EqT.none (SX.tmp 24) (SX.lit (AV.int IntKind.i64 5)))), SOper.mk (some 62) none (SOp.p (POp.move (SX.tmp 64)))])))
  (SCode.cond (SX.tmp 62)
  (SCode.seq (SCode.ops [SOper.mk (some 65) none (SOp.p (POp.build [AV.int IntKind.i64 0, AV.str [], AV.nils, AV.nils] [(0, 1, SX.lit (AV.int IntKind.i64 6))])), SOper.mk (some 7) none (SOp.a (AOp.newc 28 [AV.int IntKind.i64 0, AV.str [], AV.nils, AV.nils])), SOper.mk none none (SOp.w (WOp.store 4 (SX.tmp 7) (SX.tmp 65)))])
  (SCode.seq (SCode.ops [SOper.mk (some 66) none (SOp.a (AOp.buildS [] 0 [])), SOper.mk (some 67) none (SOp.p (POp.move (SX.tmp 2))), SOper.mk (some 68) none (SOp.w (WOp.append 9 1 16 (SX.tmp 66) (SX.tmp 67))), SOper.mk (some 8) none (SOp.p (POp.move (SX.tmp 68)))])
  (SCode.seq (SCode.seq (SCode.ops [SOper.mk (some 9) none (SOp.p (POp.move (SX.lit (AV.int IntKind.i64 0))))])
  (SCode.block 1 (SCode.loop c30_l0)))
  (SCode.seq (SCode.ops [SOper.mk (some 88) none (SOp.p (POp.move (SX.tmp 0))), SOper.mk (some 89) none (SOp.p (POp.loadn 3 (SX.tmp 4))), SOper.mk (some 90) none (SOp.p (POp.move (SX.tmp 8))), SOper.mk (some 91) none (SOp.call (SX.lit (AV.func 46 [])) [SX.tmp 88, SX.tmp 89, SX.lit (AV.int IntKind.i64 0), SX.tmp 90]), SOper.mk (some 92) none (SOp.a (AOp.buildS [AV.int IntKind.i64 0, AV.str [], AV.nils, AV.nils] 1 [(0, 4, SX.tmp 91)])), SOper.mk (some 93) none (SOp.p (POp.faddr 3 (SX.tmp 7))), SOper.mk none none (SOp.w (WOp.store 1 (SX.tmp 93) (SX.tmp 92)))])
  (SCode.seq (SCode.ops [SOper.mk (some 94) none (SOp.p (POp.loadn 4 (SX.tmp 7))), SOper.mk none none (SOp.w (WOp.store 4 (SX.tmp 6) (SX.tmp 94)))])
  SCode.ret)))))
  (SCode.seq (SCode.seq (SCode.ops [SOper.mk (some 96) none (SOp.p (POp.bin BinOp.eql EqT.none (SX.tmp 24) (SX.lit (AV.int IntKind.i64 6)))), SOper.mk (some 95) none (SOp.p (POp.move (SX.tmp 96)))])
  (SCode.cond (SX.tmp 95)
  SCode.skip
  (SCode.seq (SCode.ops [SOper.mk (some 97) none (SOp.p (POp.bin BinOp.eql EqT.none (SX.tmp 24) (SX.lit (AV.int IntKind.i64 7)))), SOper.mk (some 95) none (SOp.p (POp.move (SX.tmp 97)))])
  (SCode.cond (SX.tmp 95)
  SCode.skip
  (SCode.ops [SOper.mk (some 98) none (SOp.p (POp.bin BinOp.eql EqT.none (SX.tmp 24) (SX.lit (AV.int IntKind.i64 8)))), SOper.mk (some 95) none (SOp.p (POp.move (SX.tmp 98)))])))))
  (SCode.cond (SX.tmp 95)
  (SCode.seq (SCode.ops [SOper.mk (some 99) none (SOp.p (POp.build [AV.int IntKind.i64 0, AV.str [], AV.nils, AV.nils] [(0, 1, SX.lit (AV.int IntKind.i64 7))])), SOper.mk (some 11) none (SOp.a (AOp.newc 28 [AV.int IntKind.i64 0, AV.str [], AV.nils, AV.nils])), SOper.mk none none (SOp.w (WOp.store 4 (SX.tmp 11) (SX.tmp 99)))])
  (SCode.seq (SCode.seq (SCode.ops [SOper.mk (some 12) none (SOp.p (POp.move (SX.lit (AV.int IntKind.i64 0))))])
  (SCode.block 3 (SCode.loop c30_l1)))
  (SCode.seq (SCode.ops [SOper.mk (some 118) none (SOp.p (POp.loadn 4 (SX.tmp 11))), SOper.mk none none (SOp.w (WOp.store 4 (SX.tmp 6) (SX.tmp 118)))])
  SCode.ret)))
  (SCode.seq (SCode.ops [SOper.mk (some 120) none (SOp.p (POp.bin BinOp.eql EqT.none (SX.tmp 24) (SX.lit (AV.int IntKind.i64 9)))), SOper.mk (some 119) none (SOp.p (POp.move (SX.tmp 120)))])
  (SCode.cond (SX.tmp 119)
  (SCode.seq (SCode.draw [SOper.mk (some 121) none (SOp.p (POp.move (SX.tmp 0))), SOper.mk (some 122) none (SOp.p (POp.loadn 3 (SX.tmp 4))), SOper.mk (some 123) none (SOp.p (POp.move (SX.tmp 2))), SOper.mk (some 125) none (SOp.p (POp.move (SX.tmp 0))), SOper.mk (some 126) none (SOp.p (POp.loadn 3 (SX.tmp 4))), SOper.mk (some 127) none (SOp.p (POp.move (SX.tmp 2))), SOper.mk (some 129) none (SOp.p (POp.move (SX.tmp 0))), SOper.mk (some 130) none (SOp.p (POp.loadn 3 (SX.tmp 4))), SOper.mk (some 131) none (SOp.p (POp.move (SX.tmp 2)))] [(SOper.mk (some 124) none (SOp.call (SX.lit (AV.func 46 [])) [SX.tmp 121, SX.tmp 122, SX.lit (AV.int IntKind.i64 0), SX.tmp 123]), [SOper.mk (some 126) none (SOp.p (POp.loadn 3 (SX.tmp 4))), SOper.mk (some 130) none (SOp.p (POp.loadn 3 (SX.tmp 4)))], []), (SOper.mk (some 128) none (SOp.call (SX.lit (AV.func 46 [])) [SX.tmp 125, SX.tmp 126, SX.lit (AV.int IntKind.i64 1), SX.tmp 127]), [SOper.mk (some 130) none (SOp.p (POp.loadn 3 (SX.tmp 4)))], []), (SOper.mk (some 132) none (SOp.call (SX.lit (AV.func 46 [])) [SX.tmp 129, SX.tmp 130, SX.lit (AV.int IntKind.i64 2), SX.tmp 131]), [], [SOper.mk (some 133) none (SOp.a (AOp.buildS [AV.int IntKind.i64 0, AV.str [], AV.nils, AV.nils, AV.int IntKind.i64 0, AV.str [], AV.nils, AV.nils, AV.int IntKind.i64 0, AV.str [], AV.nils, AV.nils] 3 [(0, 4, SX.tmp 124), (4, 4, SX.tmp 128), (8, 4, SX.tmp 132)])), SOper.mk (some 134) none (SOp.p (POp.build [AV.int IntKind.i64 0, AV.str [], AV.nils, AV.nils] [(0, 1, SX.lit (AV.int IntKind.i64 8)), (3, 1, SX.tmp 133)]))]), (SOper.mk none none (SOp.w (WOp.store 4 (SX.tmp 6) (SX.tmp 134))), [], [])])
  SCode.ret)
  (SCode.seq (SCode.seq (SCode.ops [SOper.mk (some 136) none (SOp.p (POp.bin BinOp.eql EqT.none (SX.tmp 24) (SX.lit (AV.int IntKind.i64 10)))), SOper.mk (some 135) none (SOp.p (POp.move (SX.tmp 136)))])
  (SCode.cond (SX.tmp 135)
  SCode.skip
  (SCode.seq (SCode.ops [SOper.mk (some 137) none (SOp.p (POp.bin BinOp.eql EqT.none (SX.tmp 24) (SX.lit (AV.int IntKind.i64 11)))), SOper.mk (some 135) none (SOp.p (POp.move (SX.tmp 137)))])
  (SCode.cond (SX.tmp 135)
  SCode.skip
  (SCode.ops [SOper.mk (some 138) none (SOp.p (POp.bin BinOp.eql EqT.none (SX.tmp 24) (SX.lit (AV.int IntKind.i64 12)))), SOper.mk (some 135) none (SOp.p (POp.move (SX.tmp 138)))])))))
  (SCode.cond (SX.tmp 135)
  (SCode.seq (SCode.ops [SOper.mk (some 139) none (SOp.p (POp.build [AV.int IntKind.i64 0, AV.str [], AV.nils, AV.nils] [(0, 1, SX.lit (AV.int IntKind.i64 9))])), SOper.mk (some 13) none (SOp.a (AOp.newc 28 [AV.int IntKind.i64 0, AV.str [], AV.nils, AV.nils])), SOper.mk none none (SOp.w (WOp.store 4 (SX.tmp 13) (SX.tmp 139)))])
  (SCode.seq (SCode.ops [SOper.mk (some 140) none (SOp.a (AOp.buildS [] 0 [])), SOper.mk (some 141) none (SOp.p (POp.move (SX.tmp 2))), SOper.mk (some 142) none (SOp.w (WOp.append 9 1 16 (SX.tmp 140) (SX.tmp 141))), SOper.mk (some 14) none (SOp.p (POp.move (SX.tmp 142)))])
  (SCode.seq (SCode.ops [SOper.mk (some 143) none (SOp.p (POp.faddr 1 (SX.tmp 4))), SOper.mk (some 144) none (SOp.p (POp.load1 (SX.tmp 143))), SOper.mk (some 145) none (SOp.call (SX.lit (AV.func 45 [])) [SX.tmp 144, SX.lit (AV.int IntKind.i64 2)]), SOper.mk (some 146) none (SOp.p (POp.bin BinOp.add EqT.none (SX.lit (AV.int IntKind.i64 1)) (SX.tmp 145))), SOper.mk (some 15) none (SOp.p (POp.move (SX.tmp 146)))])
  (SCode.seq (SCode.seq (SCode.ops [SOper.mk (some 16) none (SOp.p (POp.move (SX.lit (AV.int IntKind.i64 0))))])
  (SCode.block 5 (SCode.loop c30_l2)))
  (SCode.seq (SCode.seq (SCode.ops [SOper.mk (some 18) none (SOp.p (POp.move (SX.lit (AV.int IntKind.i64 0))))])
  (SCode.block 7 (SCode.loop c30_l3)))
  (SCode.seq (SCode.ops [SOper.mk (some 179) none (SOp.p (POp.loadn 4 (SX.tmp 13))), SOper.mk none none (SOp.w (WOp.store 4 (SX.tmp 6) (SX.tmp 179)))])
  SCode.ret))))))
  SCode.skip))))))))))))))))
  (SCode.seq (SCode.ops [SOper.mk (some 180) none (SOp.a (AOp.buildS [AV.str [], AV.str [], AV.str [], AV.str [], AV.str [], AV.str [], AV.str [], AV.str [], AV.str [], AV.str [], AV.str [], AV.str [], AV.str [], AV.str [], AV.str [], AV.str [], AV.str [], AV.str [], AV.str [], AV.str [], AV.str []] 21 [(0, 1, SX.lit (AV.str [43])), (1, 1, SX.lit (AV.str [45])), (2, 1, SX.lit (AV.str [42])), (3, 1, SX.lit (AV.str [113, 117, 111, 116, 105, 101, 110, 116])), (4, 1, SX.lit (AV.str [114, 101, 109, 97, 105, 110, 100, 101, 114])), (5, 1, SX.lit (AV.str [60])), (6, 1, SX.lit (AV.str [61])), (7, 1, SX.lit (AV.str [101, 113, 63])), (8, 1, SX.lit (AV.str [99, 111, 110, 115])), (9, 1, SX.lit (AV.str [115, 101, 113])), (10, 1, SX.lit (AV.str [99, 97, 114])), (11, 1, SX.lit (AV.str [99, 100, 114])), (12, 1, SX.lit (AV.str [110, 117, 108, 108, 63])), (13, 1, SX.lit (AV.str [112, 97, 105, 114, 63])), (14, 1, SX.lit (AV.str [110, 111, 116])), (15, 1, SX.lit (AV.str [105, 110, 116, 101, 103, 101, 114, 63])), (16, 1, SX.lit (AV.str [115, 121, 109, 98, 111, 108, 63])), (17, 1, SX.lit (AV.str [101, 114, 114, 111, 114])), (18, 1, SX.lit (AV.str [99, 111, 110, 115])), (19, 1, SX.lit (AV.str [43])), (20, 1, SX.lit (AV.str [99, 97, 114]))])), SOper.mk (some 19) none (SOp.p (POp.move (SX.tmp 180)))])
  (SCode.seq (SCode.ops [SOper.mk (some 181) none (SOp.p (POp.move (SX.tmp 19))), SOper.mk (some 182) none (SOp.p (POp.faddr 1 (SX.tmp 4))), SOper.mk (some 183) none (SOp.p (POp.load1 (SX.tmp 182))), SOper.mk (some 184) none (SOp.p (POp.move (SX.tmp 19))), SOper.mk (some 185) none (SOp.p (POp.lenS (SX.tmp 184))), SOper.mk (some 186) none (SOp.call (SX.lit (AV.func 45 [])) [SX.tmp 183, SX.tmp 185]), SOper.mk (some 187) none (SOp.p (POp.iaddr 1 (SX.tmp 181) (SX.tmp 186))), SOper.mk (some 188) none (SOp.p (POp.load1 (SX.tmp 187))), SOper.mk (some 189) none (SOp.p (POp.build [AV.int IntKind.i64 0, AV.str [], AV.nils, AV.nils] [(0, 1, SX.lit (AV.int IntKind.i64 10)), (1, 1, SX.tmp 188)])), SOper.mk (some 20) none (SOp.a (AOp.newc 28 [AV.int IntKind.i64 0, AV.str [], AV.nils, AV.nils])), SOper.mk none none (SOp.w (WOp.store 4 (SX.tmp 20) (SX.tmp 189)))])
  (SCode.seq (SCode.seq (SCode.ops [SOper.mk (some 21) none (SOp.p (POp.move (SX.lit (AV.int IntKind.i64 0))))])
  (SCode.block 9 (SCode.loop c30_l4)))
  (SCode.seq (SCode.ops [SOper.mk (some 207) none (SOp.p (POp.loadn 4 (SX.tmp 20))), SOper.mk none none (SOp.w (WOp.store 4 (SX.tmp 6) (SX.tmp 207)))])
  SCode.ret)))))), [ResV.celln 6 4]⟩
theorem code30 (own : FuncId → Option (List AV → Heap → R)) (mode : FuncId → Nat) : (slimPrg Tryd.prog own mode).code 30 = some c30 := by kernel_rfl
-- (*thunk/thunklaw5.Maker).name
def c31 : SFunc := ⟨16, (SCode.seq (SCode.ops [SOper.mk (some 2) none (SOp.p (POp.move (SX.lit (AV.str []))))])
  (SCode.seq (SCode.ops [SOper.mk (some 3) none (SOp.p (POp.move (SX.tmp 0))), SOper.mk (some 4) none (SOp.p (POp.nilchk (SX.tmp 3))), SOper.mk (some 5) none (SOp.p (POp.faddr 0 (SX.tmp 4))), SOper.mk (some 6) none (SOp.p (POp.load1 (SX.tmp 5))), SOper.mk (some 7) none (SOp.p (POp.bin BinOp.add EqT.none (SX.tmp 6) (SX.lit (AV.int IntKind.i64 1)))), SOper.mk (some 8) none (SOp.p (POp.nilchk (SX.tmp 3))), SOper.mk (some 9) none (SOp.p (POp.faddr 0 (SX.tmp 8))), SOper.mk none none (SOp.w (WOp.store 1 (SX.tmp 9) (SX.tmp 7)))])
  (SCode.seq (SCode.ops [SOper.mk (some 10) none (SOp.p (POp.move (SX.tmp 0))), SOper.mk (some 11) none (SOp.p (POp.nilchk (SX.tmp 10))), SOper.mk (some 12) none (SOp.p (POp.faddr 0 (SX.tmp 11))), SOper.mk (some 13) none (SOp.p (POp.load1 (SX.tmp 12))), SOper.mk (some 14) none (SOp.call (SX.lit (AV.func 48 [])) [SX.tmp 13]), SOper.mk (some 15) none (SOp.p (POp.bin BinOp.add EqT.none (SX.lit (AV.str [118, 46])) (SX.tmp 14))), SOper.mk (some 2) none (SOp.p (POp.move (SX.tmp 15)))])
  SCode.ret))), [ResV.tmp 2]⟩
theorem code31 (own : FuncId → Option (List AV → Heap → R)) (mode : FuncId → Nat) : (slimPrg Tryd.prog own mode).code 31 = some c31 := by kernel_rfl
-- thunk/norm.all
def c32_l0 : SCode :=
  (SCode.seq (SCode.ops [SOper.mk (some 10) none (SOp.p (POp.bin BinOp.lss EqT.none (SX.tmp 9) (SX.tmp 8)))])
  (SCode.seq (SCode.cond (SX.tmp 10)
  SCode.skip
  (SCode.exit 0))
  (SCode.seq (SCode.block 1 (SCode.seq (SCode.ops [SOper.mk (some 11) none (SOp.p (POp.iaddr 4 (SX.tmp 7) (SX.tmp 9))), SOper.mk (some 12) none (SOp.p (POp.loadn 4 (SX.tmp 11))), SOper.mk (some 6) none (SOp.a (AOp.newc 28 [AV.int IntKind.i64 0, AV.str [], AV.nils, AV.nils])), SOper.mk none none (SOp.w (WOp.store 4 (SX.tmp 6) (SX.tmp 12)))])
  (SCode.seq (SCode.ops [SOper.mk (some 13) none (SOp.p (POp.move (SX.tmp 0))), SOper.mk (some 14) none (SOp.p (POp.loadn 4 (SX.tmp 6))), SOper.mk (some 15) none (SOp.call (SX.tmp 13) [SX.tmp 14]), SOper.mk (some 16) none (SOp.p (POp.not (SX.tmp 15)))])
  (SCode.cond (SX.tmp 16)
  (SCode.seq (SCode.ops [SOper.mk (some 4) none (SOp.p (POp.move (SX.lit (AV.bool false))))])
  SCode.ret)
  SCode.skip))))
  (SCode.ops [SOper.mk (some 17) none (SOp.p (POp.bin BinOp.add EqT.none (SX.tmp 9) (SX.lit (AV.int IntKind.i64 1)))), SOper.mk (some 9) none (SOp.p (POp.move (SX.tmp 17)))]))))
def c32 : SFunc := ⟨18, (SCode.seq (SCode.ops [SOper.mk (some 4) none (SOp.p (POp.move (SX.lit (AV.bool false))))])
  (SCode.seq (SCode.seq (SCode.ops [SOper.mk (some 7) none (SOp.p (POp.move (SX.tmp 1))), SOper.mk (some 8) none (SOp.p (POp.lenS (SX.tmp 7))), SOper.mk (some 9) none (SOp.p (POp.move (SX.lit (AV.int IntKind.i64 0))))])
  (SCode.block 0 (SCode.loop c32_l0)))
  (SCode.seq (SCode.ops [SOper.mk (some 4) none (SOp.p (POp.move (SX.lit (AV.bool true))))])
  SCode.ret))), [ResV.tmp 4]⟩
theorem code32 (own : FuncId → Option (List AV → Heap → R)) (mode : FuncId → Nat) : (slimPrg Tryd.prog own mode).code 32 = some c32 := by kernel_rfl
-- thunk/norm.atom
def c33 : SFunc := ⟨11, (SCode.seq (SCode.ops [SOper.mk (some 1) none (SOp.a (AOp.box 28 (SX.tmp 0))), SOper.mk (some 2) none (SOp.p (POp.move (SX.lit (AV.bool false))))])
  (SCode.seq (SCode.seq (SCode.ops [SOper.mk (some 3) none (SOp.p (POp.faddr 0 (SX.tmp 1))), SOper.mk (some 4) none (SOp.p (POp.load1 (SX.tmp 3)))])
  (SCode.block 0 (SCode.seq (SCode.seq (SCode.ops [SOper.mk (some 6) none (SOp.p (POp.bin BinOp.eql EqT.none (SX.tmp 4) (SX.lit (AV.int IntKind.i64 1)))), SOper.mk (some 5) none (SOp.p (POp.move (SX.tmp 6)))])
  (SCode.cond (SX.tmp 5)
  SCode.skip
  (SCode.seq (SCode.ops [SOper.mk (some 7) none (SOp.p (POp.bin BinOp.eql EqT.none (SX.tmp 4) (SX.lit (AV.int IntKind.i64 2)))), SOper.mk (some 5) none (SOp.p (POp.move (SX.tmp 7)))])
  (SCode.cond (SX.tmp 5)
  SCode.skip
  (SCode.seq (SCode.ops [SOper.mk (some 8) none (SOp.p (POp.bin BinOp.eql EqT.none (SX.tmp 4) (SX.lit (AV.int IntKind.i64 3)))), SOper.mk (some 5) none (SOp.p (POp.move (SX.tmp 8)))])
  (SCode.cond (SX.tmp 5)
  SCode.skip
  (SCode.seq (SCode.ops [SOper.mk (some 9) none (SOp.p (POp.bin BinOp.eql EqT.none (SX.tmp 4) (SX.lit (AV.int IntKind.i64 4)))), SOper.mk (some 5) none (SOp.p (POp.move (SX.tmp 9)))])
  (SCode.cond (SX.tmp 5)
  SCode.skip
  (SCode.ops [SOper.mk (some 10) none (SOp.p (POp.bin BinOp.eql EqT.none (SX.tmp 4) (SX.lit (AV.int IntKind.i64 5)))), SOper.mk (some 5) none (SOp.p (POp.move (SX.tmp 10)))])))))))))
  (SCode.cond (SX.tmp 5)
  (SCode.seq (SCode.ops [SOper.mk (some 2) none (SOp.p (POp.move (SX.lit (AV.bool true))))])
  SCode.ret)
  SCode.skip))))
  (SCode.seq (SCode.ops [SOper.mk (some 2) none (SOp.p (POp.move (SX.lit (AV.bool false))))])
  SCode.ret))), [ResV.tmp 2]⟩
theorem code33 (own : FuncId → Option (List AV → Heap → R)) (mode : FuncId → Nat) : (slimPrg Tryd.prog own mode).code 33 = some c33 := by kernel_rfl
-- thunk/norm.first
def c34 : SFunc := ⟨19, (SCode.seq (SCode.ops [SOper.mk (some 1) none (SOp.a (AOp.box 28 (SX.tmp 0))), SOper.mk (some 2) none (SOp.p (POp.move (SX.lit (AV.int IntKind.i64 0))))])
  (SCode.seq (SCode.block 0 (SCode.seq (SCode.ops [SOper.mk (some 4) none (SOp.p (POp.faddr 0 (SX.tmp 1))), SOper.mk (some 5) none (SOp.p (POp.load1 (SX.tmp 4))), SOper.mk (some 6) none (SOp.p (POp.bin BinOp.eql EqT.none (SX.tmp 5) (SX.lit (AV.int IntKind.i64 7)))), SOper.mk (some 3) none (SOp.p (POp.move (SX.tmp 6)))])
  (SCode.cond (SX.tmp 3)
  (SCode.seq (SCode.ops [SOper.mk (some 2) none (SOp.p (POp.move (SX.lit (AV.int IntKind.i64 1))))])
  SCode.ret)
  (SCode.seq (SCode.ops [SOper.mk (some 8) none (SOp.p (POp.faddr 0 (SX.tmp 1))), SOper.mk (some 9) none (SOp.p (POp.load1 (SX.tmp 8))), SOper.mk (some 10) none (SOp.p (POp.bin BinOp.eql EqT.none (SX.tmp 9) (SX.lit (AV.int IntKind.i64 10)))), SOper.mk (some 11) none (SOp.p (POp.move (SX.tmp 10))), SOper.mk (some 12) (some (11, true)) (SOp.p (POp.faddr 1 (SX.tmp 1))), SOper.mk (some 13) (some (11, true)) (SOp.p (POp.load1 (SX.tmp 12))), SOper.mk (some 14) (some (11, true)) (SOp.p (POp.bin BinOp.eql EqT.none (SX.tmp 13) (SX.lit (AV.str [99, 111, 110, 115])))), SOper.mk (some 15) none (SOp.p (POp.pick (SX.tmp 11) (SX.tmp 14) (SX.lit (AV.bool false)))), SOper.mk (some 7) none (SOp.p (POp.move (SX.tmp 15)))])
  (SCode.cond (SX.tmp 7)
  (SCode.seq (SCode.ops [SOper.mk (some 2) none (SOp.p (POp.move (SX.lit (AV.int IntKind.i64 0))))])
  SCode.ret)
  SCode.skip)))))
  (SCode.seq (SCode.ops [SOper.mk (some 16) none (SOp.p (POp.faddr 3 (SX.tmp 1))), SOper.mk (some 17) none (SOp.p (POp.load1 (SX.tmp 16))), SOper.mk (some 18) none (SOp.p (POp.lenS (SX.tmp 17))), SOper.mk (some 2) none (SOp.p (POp.move (SX.tmp 18)))])
  SCode.ret))), [ResV.tmp 2]⟩
theorem code34 (own : FuncId → Option (List AV → Heap → R)) (mode : FuncId → Nat) : (slimPrg Tryd.prog own mode).code 34 = some c34 := by kernel_rfl
-- thunk/thunkref7.lazy
def c35 : SFunc := ⟨16, (SCode.seq (SCode.ops [SOper.mk (some 1) none (SOp.a (AOp.box 28 (SX.tmp 0))), SOper.mk (some 2) none (SOp.p (POp.move (SX.lit (AV.int IntKind.i64 0))))])
  (SCode.seq (SCode.block 0 (SCode.seq (SCode.ops [SOper.mk (some 4) none (SOp.p (POp.faddr 0 (SX.tmp 1))), SOper.mk (some 5) none (SOp.p (POp.load1 (SX.tmp 4))), SOper.mk (some 6) none (SOp.p (POp.bin BinOp.eql EqT.none (SX.tmp 5) (SX.lit (AV.int IntKind.i64 7)))), SOper.mk (some 3) none (SOp.p (POp.move (SX.tmp 6)))])
  (SCode.cond (SX.tmp 3)
  (SCode.seq (SCode.ops [SOper.mk (some 2) none (SOp.p (POp.move (SX.lit (AV.int IntKind.i64 1))))])
  SCode.ret)
  (SCode.seq (SCode.ops [SOper.mk (some 8) none (SOp.p (POp.faddr 0 (SX.tmp 1))), SOper.mk (some 9) none (SOp.p (POp.load1 (SX.tmp 8))), SOper.mk (some 10) none (SOp.p (POp.bin BinOp.eql EqT.none (SX.tmp 9) (SX.lit (AV.int IntKind.i64 10)))), SOper.mk (some 11) none (SOp.p (POp.move (SX.tmp 10))), SOper.mk (some 12) (some (11, true)) (SOp.p (POp.faddr 1 (SX.tmp 1))), SOper.mk (some 13) (some (11, true)) (SOp.p (POp.load1 (SX.tmp 12))), SOper.mk (some 14) (some (11, true)) (SOp.p (POp.bin BinOp.eql EqT.none (SX.tmp 13) (SX.lit (AV.str [99, 111, 110, 115])))), SOper.mk (some 15) none (SOp.p (POp.pick (SX.tmp 11) (SX.tmp 14) (SX.lit (AV.bool false)))), SOper.mk (some 7) none (SOp.p (POp.move (SX.tmp 15)))])
  (SCode.cond (SX.tmp 7)
  (SCode.seq (SCode.ops [SOper.mk (some 2) none (SOp.p (POp.move (SX.lit (AV.int IntKind.i64 0))))])
  SCode.ret)
  SCode.skip)))))
  (SCode.seq (SCode.ops [SOper.mk (some 2) none (SOp.p (POp.move (SX.lit (AV.int IntKind.i64 (-1)))))])
  SCode.ret))), [ResV.tmp 2]⟩
theorem code35 (own : FuncId → Option (List AV → Heap → R)) (mode : FuncId → Nat) : (slimPrg Tryd.prog own mode).code 35 = some c35 := by kernel_rfl
-- thunk/thunkref5.Atom
def c36 : SFunc := ⟨11, (SCode.seq (SCode.ops [SOper.mk (some 1) none (SOp.a (AOp.box 28 (SX.tmp 0))), SOper.mk (some 2) none (SOp.p (POp.move (SX.lit (AV.bool false))))])
  (SCode.seq (SCode.ops [SOper.mk (some 3) none (SOp.p (POp.faddr 0 (SX.tmp 1))), SOper.mk (some 4) none (SOp.p (POp.load1 (SX.tmp 3))), SOper.mk (some 5) none (SOp.p (POp.bin BinOp.geq EqT.none (SX.tmp 4) (SX.lit (AV.int IntKind.i64 1)))), SOper.mk (some 6) none (SOp.p (POp.move (SX.tmp 5))), SOper.mk (some 7) (some (6, true)) (SOp.p (POp.faddr 0 (SX.tmp 1))), SOper.mk (some 8) (some (6, true)) (SOp.p (POp.load1 (SX.tmp 7))), SOper.mk (some 9) (some (6, true)) (SOp.p (POp.bin BinOp.leq EqT.none (SX.tmp 8) (SX.lit (AV.int IntKind.i64 5)))), SOper.mk (some 10) none (SOp.p (POp.pick (SX.tmp 6) (SX.tmp 9) (SX.lit (AV.bool false)))), SOper.mk (some 2) none (SOp.p (POp.move (SX.tmp 10)))])
  SCode.ret)), [ResV.tmp 2]⟩
theorem code36 (own : FuncId → Option (List AV → Heap → R)) (mode : FuncId → Nat) : (slimPrg Tryd.prog own mode).code 36 = some c36 := by kernel_rfl
-- thunk/thunkref5.Texts
def c37_l0 : SCode :=
  (SCode.seq (SCode.seq (SCode.ops [SOper.mk (some 11) none (SOp.p (POp.move (SX.tmp 5))), SOper.mk (some 12) none (SOp.p (POp.move (SX.tmp 0))), SOper.mk (some 13) none (SOp.p (POp.lenS (SX.tmp 12))), SOper.mk (some 14) none (SOp.p (POp.bin BinOp.lss EqT.none (SX.tmp 11) (SX.tmp 13)))])
  (SCode.cond (SX.tmp 14)
  SCode.skip
  (SCode.exit 0)))
  (SCode.seq (SCode.block 1 (SCode.seq (SCode.draw [SOper.mk (some 17) none (SOp.p (POp.move (SX.tmp 0))), SOper.mk (some 18) none (SOp.p (POp.move (SX.tmp 5))), SOper.mk (some 19) none (SOp.p (POp.iaddr 1 (SX.tmp 17) (SX.tmp 18))), SOper.mk (some 20) none (SOp.p (POp.load1 (SX.tmp 19))), SOper.mk (some 21) none (SOp.p (POp.move (SX.tmp 1))), SOper.mk (some 22) none (SOp.p (POp.move (SX.tmp 5))), SOper.mk (some 23) none (SOp.p (POp.iaddr 1 (SX.tmp 21) (SX.tmp 22))), SOper.mk (some 24) none (SOp.p (POp.load1 (SX.tmp 23))), SOper.mk (some 25) none (SOp.p (POp.bin BinOp.neq EqT.none (SX.tmp 20) (SX.tmp 24)))] [])
  (SCode.cond (SX.tmp 25)
  (SCode.seq (SCode.ops [SOper.mk (some 4) none (SOp.p (POp.move (SX.lit (AV.bool false))))])
  SCode.ret)
  SCode.skip)))
  (SCode.ops [SOper.mk (some 15) none (SOp.p (POp.move (SX.tmp 5))), SOper.mk (some 16) none (SOp.p (POp.bin BinOp.add EqT.none (SX.tmp 15) (SX.lit (AV.int IntKind.i64 1)))), SOper.mk (some 5) none (SOp.p (POp.move (SX.tmp 16)))])))
def c37 : SFunc := ⟨26, (SCode.seq (SCode.ops [SOper.mk (some 4) none (SOp.p (POp.move (SX.lit (AV.bool false))))])
  (SCode.seq (SCode.seq (SCode.ops [SOper.mk (some 6) none (SOp.p (POp.move (SX.tmp 0))), SOper.mk (some 7) none (SOp.p (POp.lenS (SX.tmp 6))), SOper.mk (some 8) none (SOp.p (POp.move (SX.tmp 1))), SOper.mk (some 9) none (SOp.p (POp.lenS (SX.tmp 8))), SOper.mk (some 10) none (SOp.p (POp.bin BinOp.neq EqT.none (SX.tmp 7) (SX.tmp 9)))])
  (SCode.cond (SX.tmp 10)
  (SCode.seq (SCode.ops [SOper.mk (some 4) none (SOp.p (POp.move (SX.lit (AV.bool false))))])
  SCode.ret)
  SCode.skip))
  (SCode.seq (SCode.seq (SCode.ops [SOper.mk (some 5) none (SOp.p (POp.move (SX.lit (AV.int IntKind.i64 0))))])
  (SCode.block 0 (SCode.loop c37_l0)))
  (SCode.seq (SCode.ops [SOper.mk (some 4) none (SOp.p (POp.move (SX.lit (AV.bool true))))])
  SCode.ret)))), [ResV.tmp 4]⟩
theorem code37 (own : FuncId → Option (List AV → Heap → R)) (mode : FuncId → Nat) : (slimPrg Tryd.prog own mode).code 37 = some c37 := by kernel_rfl
-- (thunk/norm.names).norm
def c38_l0 : SCode :=
  (SCode.seq (SCode.ops [SOper.mk (some 22) none (SOp.p (POp.bin BinOp.lss EqT.none (SX.tmp 21) (SX.tmp 20)))])
  (SCode.seq (SCode.cond (SX.tmp 22)
  SCode.skip
  (SCode.exit 0))
  (SCode.seq (SCode.block 1 (SCode.seq (SCode.ops [SOper.mk (some 23) none (SOp.p (POp.move (SX.tmp 21))), SOper.mk (some 24) none (SOp.p (POp.iaddr 4 (SX.tmp 19) (SX.tmp 21))), SOper.mk (some 25) none (SOp.p (POp.loadn 4 (SX.tmp 24))), SOper.mk (some 9) none (SOp.a (AOp.newc 28 [AV.int IntKind.i64 0, AV.str [], AV.nils, AV.nils])), SOper.mk (some 8) none (SOp.p (POp.move (SX.tmp 23))), SOper.mk none none (SOp.w (WOp.store 4 (SX.tmp 9) (SX.tmp 25)))])
  (SCode.seq (SCode.ops [SOper.mk (some 26) none (SOp.p (POp.loadn 1 (SX.tmp 2))), SOper.mk (some 27) none (SOp.p (POp.loadn 4 (SX.tmp 9))), SOper.mk (some 28) none (SOp.call (SX.lit (AV.func 38 [])) [SX.tmp 26, SX.tmp 27]), SOper.mk none none (SOp.w (WOp.store 4 (SX.tmp 9) (SX.tmp 28)))])
  (SCode.seq (SCode.seq (SCode.ops [SOper.mk (some 29) none (SOp.p (POp.move (SX.tmp 8))), SOper.mk (some 30) none (SOp.p (POp.move (SX.tmp 5))), SOper.mk (some 31) none (SOp.p (POp.bin BinOp.geq EqT.none (SX.tmp 29) (SX.tmp 30))), SOper.mk (some 32) none (SOp.p (POp.move (SX.tmp 31))), SOper.mk (some 33) (some (32, true)) (SOp.p (POp.loadn 4 (SX.tmp 9))), SOper.mk (some 34) (some (32, true)) (SOp.call (SX.lit (AV.func 33 [])) [SX.tmp 33]), SOper.mk (some 35) (some (32, true)) (SOp.p (POp.not (SX.tmp 34))), SOper.mk (some 36) none (SOp.p (POp.pick (SX.tmp 32) (SX.tmp 35) (SX.lit (AV.bool false))))])
  (SCode.cond (SX.tmp 36)
  (SCode.seq (SCode.ops [SOper.mk (some 37) none (SOp.p (POp.faddr 0 (SX.tmp 2))), SOper.mk (some 38) none (SOp.p (POp.load1 (SX.tmp 37))), SOper.mk (some 39) none (SOp.call (SX.lit (AV.func 50 [])) [SX.tmp 38]), SOper.mk (some 10) none (SOp.p (POp.move (SX.tmp 39)))])
  (SCode.seq (SCode.ops [SOper.mk (some 40) none (SOp.p (POp.move (SX.tmp 7))), SOper.mk (some 41) none (SOp.p (POp.move (SX.tmp 10))), SOper.mk (some 42) none (SOp.a (AOp.buildS [AV.str []] 1 [(0, 1, SX.tmp 41)])), SOper.mk (some 43) none (SOp.p (POp.loadn 4 (SX.tmp 9))), SOper.mk (some 44) none (SOp.a (AOp.buildS [AV.int IntKind.i64 0, AV.str [], AV.nils, AV.nils] 1 [(0, 4, SX.tmp 43)])), SOper.mk (some 45) none (SOp.p (POp.build [AV.int IntKind.i64 0, AV.str [], AV.nils, AV.nils] [(0, 1, SX.lit (AV.int IntKind.i64 9)), (2, 1, SX.tmp 42), (3, 1, SX.tmp 44)])), SOper.mk (some 46) none (SOp.a (AOp.buildS [AV.int IntKind.i64 0, AV.str [], AV.nils, AV.nils] 1 [(0, 4, SX.tmp 45)])), SOper.mk (some 47) none (SOp.w (WOp.append 28 4 72 (SX.tmp 40) (SX.tmp 46))), SOper.mk (some 7) none (SOp.p (POp.move (SX.tmp 47)))])
  (SCode.ops [SOper.mk (some 48) none (SOp.p (POp.move (SX.tmp 10))), SOper.mk (some 49) none (SOp.p (POp.build [AV.int IntKind.i64 0, AV.str [], AV.nils, AV.nils] [(0, 1, SX.lit (AV.int IntKind.i64 5)), (1, 1, SX.tmp 48)])), SOper.mk none none (SOp.w (WOp.store 4 (SX.tmp 9) (SX.tmp 49)))])))
  SCode.skip))
  (SCode.ops [SOper.mk (some 50) none (SOp.p (POp.move (SX.tmp 6))), SOper.mk (some 51) none (SOp.p (POp.loadn 4 (SX.tmp 9))), SOper.mk (some 52) none (SOp.a (AOp.buildS [AV.int IntKind.i64 0, AV.str [], AV.nils, AV.nils] 1 [(0, 4, SX.tmp 51)])), SOper.mk (some 53) none (SOp.w (WOp.append 28 4 72 (SX.tmp 50) (SX.tmp 52))), SOper.mk (some 6) none (SOp.p (POp.move (SX.tmp 53)))])))))
  (SCode.ops [SOper.mk (some 54) none (SOp.p (POp.bin BinOp.add EqT.none (SX.tmp 21) (SX.lit (AV.int IntKind.i64 1)))), SOper.mk (some 21) none (SOp.p (POp.move (SX.tmp 54)))]))))
def c38_l1 : SCode :=
  (SCode.seq (SCode.seq (SCode.ops [SOper.mk (some 61) none (SOp.p (POp.move (SX.tmp 11))), SOper.mk (some 62) none (SOp.p (POp.bin BinOp.geq EqT.none (SX.tmp 61) (SX.lit (AV.int IntKind.i64 0))))])
  (SCode.cond (SX.tmp 62)
  SCode.skip
  (SCode.exit 2)))
  (SCode.seq (SCode.block 3 (SCode.seq (SCode.draw2 [SOper.mk (some 65) none (SOp.p (POp.move (SX.tmp 7))), SOper.mk (some 66) none (SOp.p (POp.move (SX.tmp 11))), SOper.mk (some 67) none (SOp.p (POp.iaddr 4 (SX.tmp 65) (SX.tmp 66))), SOper.mk (some 68) none (SOp.p (POp.faddr 3 (SX.tmp 67))), SOper.mk (some 69) none (SOp.p (POp.load1 (SX.tmp 68))), SOper.mk (some 70) none (SOp.p (POp.loadn 4 (SX.tmp 3))), SOper.mk (some 71) none (SOp.p (POp.lenS (SX.tmp 69))), SOper.mk (some 72) none (SOp.a (AOp.buildS [AV.int IntKind.i64 0, AV.str [], AV.nils, AV.nils] 1 [(0, 4, SX.lit (AV.agg [AV.int IntKind.i64 0, AV.str [], AV.nils, AV.nils]))]))] [(SOper.mk (some 73) none (SOp.w (WOp.append 28 4 72 (SX.tmp 69) (SX.tmp 72))), [], [SOper.mk (some 74) none (SOp.p (POp.iaddr 4 (SX.tmp 73) (SX.tmp 71))), SOper.mk (some 75) none (SOp.p (POp.iaddr 4 (SX.tmp 65) (SX.tmp 66))), SOper.mk (some 76) none (SOp.p (POp.faddr 3 (SX.tmp 75)))])] (SOper.mk none none (SOp.w (WOp.store 4 (SX.tmp 74) (SX.tmp 70)))) (SOper.mk none none (SOp.w (WOp.store 1 (SX.tmp 76) (SX.tmp 73)))))
  (SCode.ops [SOper.mk (some 77) none (SOp.p (POp.move (SX.tmp 7))), SOper.mk (some 78) none (SOp.p (POp.move (SX.tmp 11))), SOper.mk (some 79) none (SOp.p (POp.iaddr 4 (SX.tmp 77) (SX.tmp 78))), SOper.mk (some 80) none (SOp.p (POp.loadn 4 (SX.tmp 79))), SOper.mk none none (SOp.w (WOp.store 4 (SX.tmp 3) (SX.tmp 80)))])))
  (SCode.ops [SOper.mk (some 63) none (SOp.p (POp.move (SX.tmp 11))), SOper.mk (some 64) none (SOp.p (POp.bin BinOp.sub EqT.none (SX.tmp 63) (SX.lit (AV.int IntKind.i64 1)))), SOper.mk (some 11) none (SOp.p (POp.move (SX.tmp 64)))])))
def c38 : SFunc := ⟨82, (SCode.seq (SCode.ops [SOper.mk (some 2) none (SOp.a (AOp.box 61 (SX.tmp 0))), SOper.mk (some 3) none (SOp.a (AOp.box 28 (SX.tmp 1))), SOper.mk (some 4) none (SOp.a (AOp.newc 28 [AV.int IntKind.i64 0, AV.str [], AV.nils, AV.nils]))])
  (SCode.seq (SCode.ops [SOper.mk (some 12) none (SOp.p (POp.faddr 2 (SX.tmp 3))), SOper.mk (some 13) none (SOp.p (POp.load1 (SX.tmp 12))), SOper.mk (some 14) none (SOp.call (SX.lit (AV.func 49 [])) [SX.tmp 13]), SOper.mk (some 15) none (SOp.p (POp.faddr 2 (SX.tmp 3))), SOper.mk none none (SOp.w (WOp.store 1 (SX.tmp 15) (SX.tmp 14)))])
  (SCode.seq (SCode.ops [SOper.mk (some 16) none (SOp.p (POp.loadn 4 (SX.tmp 3))), SOper.mk (some 17) none (SOp.call (SX.lit (AV.func 34 [])) [SX.tmp 16]), SOper.mk (some 5) none (SOp.p (POp.move (SX.tmp 17)))])
  (SCode.seq (SCode.ops [SOper.mk (some 6) none (SOp.p (POp.move (SX.lit AV.nils))), SOper.mk (some 7) none (SOp.p (POp.move (SX.lit AV.nils)))])
  (SCode.seq (SCode.seq (SCode.ops [SOper.mk (some 18) none (SOp.p (POp.faddr 3 (SX.tmp 3))), SOper.mk (some 19) none (SOp.p (POp.load1 (SX.tmp 18))), SOper.mk (some 20) none (SOp.p (POp.lenS (SX.tmp 19))), SOper.mk (some 21) none (SOp.p (POp.move (SX.lit (AV.int IntKind.i64 0))))])
  (SCode.block 0 (SCode.loop c38_l0)))
  (SCode.seq (SCode.ops [SOper.mk (some 55) none (SOp.p (POp.move (SX.tmp 6))), SOper.mk (some 56) none (SOp.call (SX.lit (AV.func 51 [])) [SX.tmp 55]), SOper.mk (some 57) none (SOp.p (POp.faddr 3 (SX.tmp 3))), SOper.mk none none (SOp.w (WOp.store 1 (SX.tmp 57) (SX.tmp 56)))])
  (SCode.seq (SCode.seq (SCode.ops [SOper.mk (some 58) none (SOp.p (POp.move (SX.tmp 7))), SOper.mk (some 59) none (SOp.p (POp.lenS (SX.tmp 58))), SOper.mk (some 60) none (SOp.p (POp.bin BinOp.sub EqT.none (SX.tmp 59) (SX.lit (AV.int IntKind.i64 1)))), SOper.mk (some 11) none (SOp.p (POp.move (SX.tmp 60)))])
  (SCode.block 2 (SCode.loop c38_l1)))
  (SCode.seq (SCode.ops [SOper.mk (some 81) none (SOp.p (POp.loadn 4 (SX.tmp 3))), SOper.mk none none (SOp.w (WOp.store 4 (SX.tmp 4) (SX.tmp 81)))])
  SCode.ret)))))))), [ResV.celln 4 4]⟩
theorem code38 (own : FuncId → Option (List AV → Heap → R)) (mode : FuncId → Nat) : (slimPrg Tryd.prog own mode).code 38 = some c38 := by kernel_rfl
-- (*thunk/thunkref7.Namer).Norm
def c39_l0 : SCode :=
  (SCode.seq (SCode.seq (SCode.ops [SOper.mk (some 24) none (SOp.p (POp.move (SX.tmp 9))), SOper.mk (some 25) none (SOp.p (POp.faddr 3 (SX.tmp 3))), SOper.mk (some 26) none (SOp.p (POp.load1 (SX.tmp 25))), SOper.mk (some 27) none (SOp.p (POp.lenS (SX.tmp 26))), SOper.mk (some 28) none (SOp.p (POp.bin BinOp.lss EqT.none (SX.tmp 24) (SX.tmp 27)))])
  (SCode.cond (SX.tmp 28)
  SCode.skip
  (SCode.exit 0)))
  (SCode.seq (SCode.block 1 (SCode.seq (SCode.ops [SOper.mk (some 31) none (SOp.p (POp.move (SX.tmp 0))), SOper.mk (some 32) none (SOp.p (POp.faddr 3 (SX.tmp 3))), SOper.mk (some 33) none (SOp.p (POp.load1 (SX.tmp 32))), SOper.mk (some 34) none (SOp.p (POp.move (SX.tmp 9))), SOper.mk (some 35) none (SOp.p (POp.iaddr 4 (SX.tmp 33) (SX.tmp 34))), SOper.mk (some 36) none (SOp.p (POp.loadn 4 (SX.tmp 35))), SOper.mk (some 37) none (SOp.call (SX.lit (AV.func 39 [])) [SX.tmp 31, SX.tmp 36]), SOper.mk (some 10) none (SOp.a (AOp.newc 28 [AV.int IntKind.i64 0, AV.str [], AV.nils, AV.nils])), SOper.mk none none (SOp.w (WOp.store 4 (SX.tmp 10) (SX.tmp 37)))])
  (SCode.seq (SCode.seq (SCode.ops [SOper.mk (some 38) none (SOp.p (POp.move (SX.tmp 6))), SOper.mk (some 39) none (SOp.p (POp.bin BinOp.geq EqT.none (SX.tmp 38) (SX.lit (AV.int IntKind.i64 0)))), SOper.mk (some 40) none (SOp.p (POp.move (SX.tmp 39))), SOper.mk (some 41) (some (40, true)) (SOp.p (POp.move (SX.tmp 9))), SOper.mk (some 42) (some (40, true)) (SOp.p (POp.move (SX.tmp 6))), SOper.mk (some 43) (some (40, true)) (SOp.p (POp.bin BinOp.geq EqT.none (SX.tmp 41) (SX.tmp 42))), SOper.mk (some 44) none (SOp.p (POp.pick (SX.tmp 40) (SX.tmp 43) (SX.lit (AV.bool false)))), SOper.mk (some 45) none (SOp.p (POp.move (SX.tmp 44))), SOper.mk (some 46) (some (45, true)) (SOp.p (POp.loadn 4 (SX.tmp 10))), SOper.mk (some 47) (some (45, true)) (SOp.call (SX.lit (AV.func 36 [])) [SX.tmp 46]), SOper.mk (some 48) (some (45, true)) (SOp.p (POp.not (SX.tmp 47))), SOper.mk (some 49) none (SOp.p (POp.pick (SX.tmp 45) (SX.tmp 48) (SX.lit (AV.bool false))))])
  (SCode.cond (SX.tmp 49)
  (SCode.seq (SCode.ops [SOper.mk (some 50) none (SOp.p (POp.move (SX.tmp 0))), SOper.mk (some 51) none (SOp.call (SX.lit (AV.func 52 [])) [SX.tmp 50]), SOper.mk (some 11) none (SOp.p (POp.move (SX.tmp 51)))])
  (SCode.seq (SCode.draw [SOper.mk (some 52) none (SOp.p (POp.move (SX.tmp 7))), SOper.mk (some 53) none (SOp.p (POp.move (SX.tmp 11))), SOper.mk (some 54) none (SOp.a (AOp.buildS [AV.str []] 1 [(0, 1, SX.tmp 53)])), SOper.mk (some 56) none (SOp.p (POp.move (SX.tmp 8))), SOper.mk (some 57) none (SOp.p (POp.loadn 4 (SX.tmp 10))), SOper.mk (some 58) none (SOp.a (AOp.buildS [AV.int IntKind.i64 0, AV.str [], AV.nils, AV.nils] 1 [(0, 4, SX.tmp 57)]))] [(SOper.mk (some 55) none (SOp.w (WOp.append 9 1 16 (SX.tmp 52) (SX.tmp 54))), [SOper.mk (some 57) none (SOp.p (POp.loadn 4 (SX.tmp 10)))], []), (SOper.mk (some 59) none (SOp.w (WOp.append 28 4 72 (SX.tmp 56) (SX.tmp 58))), [], [SOper.mk (some 7) none (SOp.p (POp.move (SX.tmp 55))), SOper.mk (some 8) none (SOp.p (POp.move (SX.tmp 59)))])])
  (SCode.ops [SOper.mk (some 60) none (SOp.p (POp.move (SX.tmp 11))), SOper.mk (some 61) none (SOp.call (SX.lit (AV.func 25 [])) [SX.tmp 60]), SOper.mk none none (SOp.w (WOp.store 4 (SX.tmp 10) (SX.tmp 61)))])))
  SCode.skip))
  (SCode.ops [SOper.mk (some 62) none (SOp.p (POp.faddr 3 (SX.tmp 5))), SOper.mk (some 63) none (SOp.p (POp.load1 (SX.tmp 62))), SOper.mk (some 64) none (SOp.p (POp.loadn 4 (SX.tmp 10))), SOper.mk (some 65) none (SOp.a (AOp.buildS [AV.int IntKind.i64 0, AV.str [], AV.nils, AV.nils] 1 [(0, 4, SX.tmp 64)])), SOper.mk (some 66) none (SOp.w (WOp.append 28 4 72 (SX.tmp 63) (SX.tmp 65))), SOper.mk (some 67) none (SOp.p (POp.faddr 3 (SX.tmp 5))), SOper.mk none none (SOp.w (WOp.store 1 (SX.tmp 67) (SX.tmp 66)))]))))
  (SCode.ops [SOper.mk (some 29) none (SOp.p (POp.move (SX.tmp 9))), SOper.mk (some 30) none (SOp.p (POp.bin BinOp.add EqT.none (SX.tmp 29) (SX.lit (AV.int IntKind.i64 1)))), SOper.mk (some 9) none (SOp.p (POp.move (SX.tmp 30)))])))
def c39_l1 : SCode :=
  (SCode.seq (SCode.seq (SCode.ops [SOper.mk (some 70) none (SOp.p (POp.move (SX.tmp 12))), SOper.mk (some 71) none (SOp.p (POp.bin BinOp.gtr EqT.none (SX.tmp 70) (SX.lit (AV.int IntKind.i64 0))))])
  (SCode.cond (SX.tmp 71)
  SCode.skip
  (SCode.exit 2)))
  (SCode.seq (SCode.block 3 (SCode.draw [SOper.mk (some 74) none (SOp.p (POp.move (SX.tmp 7))), SOper.mk (some 75) none (SOp.p (POp.move (SX.tmp 12))), SOper.mk (some 76) none (SOp.p (POp.bin BinOp.sub EqT.none (SX.tmp 75) (SX.lit (AV.int IntKind.i64 1)))), SOper.mk (some 77) none (SOp.p (POp.iaddr 1 (SX.tmp 74) (SX.tmp 76))), SOper.mk (some 78) none (SOp.p (POp.load1 (SX.tmp 77))), SOper.mk (some 79) none (SOp.p (POp.move (SX.tmp 8))), SOper.mk (some 80) none (SOp.p (POp.move (SX.tmp 12))), SOper.mk (some 81) none (SOp.p (POp.bin BinOp.sub EqT.none (SX.tmp 80) (SX.lit (AV.int IntKind.i64 1)))), SOper.mk (some 82) none (SOp.p (POp.iaddr 4 (SX.tmp 79) (SX.tmp 81))), SOper.mk (some 83) none (SOp.p (POp.loadn 4 (SX.tmp 82))), SOper.mk (some 84) none (SOp.p (POp.loadn 4 (SX.tmp 5)))] [(SOper.mk (some 85) none (SOp.call (SX.lit (AV.func 27 [])) [SX.tmp 78, SX.tmp 83, SX.tmp 84]), [], []), (SOper.mk none none (SOp.w (WOp.store 4 (SX.tmp 5) (SX.tmp 85))), [], [])]))
  (SCode.ops [SOper.mk (some 72) none (SOp.p (POp.move (SX.tmp 12))), SOper.mk (some 73) none (SOp.p (POp.bin BinOp.sub EqT.none (SX.tmp 72) (SX.lit (AV.int IntKind.i64 1)))), SOper.mk (some 12) none (SOp.p (POp.move (SX.tmp 73)))])))
def c39 : SFunc := ⟨87, (SCode.seq (SCode.ops [SOper.mk (some 3) none (SOp.a (AOp.box 28 (SX.tmp 1))), SOper.mk (some 4) none (SOp.a (AOp.newc 28 [AV.int IntKind.i64 0, AV.str [], AV.nils, AV.nils]))])
  (SCode.seq (SCode.draw [SOper.mk (some 13) none (SOp.p (POp.faddr 0 (SX.tmp 3))), SOper.mk (some 14) none (SOp.p (POp.load1 (SX.tmp 13))), SOper.mk (some 15) none (SOp.p (POp.faddr 1 (SX.tmp 3))), SOper.mk (some 16) none (SOp.p (POp.load1 (SX.tmp 15))), SOper.mk (some 17) none (SOp.a (AOp.buildS [] 0 [])), SOper.mk (some 18) none (SOp.p (POp.faddr 2 (SX.tmp 3))), SOper.mk (some 19) none (SOp.p (POp.load1 (SX.tmp 18))), SOper.mk (some 5) none (SOp.a (AOp.newc 28 [AV.int IntKind.i64 0, AV.str [], AV.nils, AV.nils]))] [(SOper.mk (some 20) none (SOp.w (WOp.append 9 1 16 (SX.tmp 17) (SX.tmp 19))), [SOper.mk (some 14) none (SOp.p (POp.load1 (SX.tmp 13))), SOper.mk (some 16) none (SOp.p (POp.load1 (SX.tmp 15)))], [SOper.mk (some 21) none (SOp.p (POp.build [AV.int IntKind.i64 0, AV.str [], AV.nils, AV.nils] [(0, 1, SX.tmp 14), (1, 1, SX.tmp 16), (2, 1, SX.tmp 20)]))]), (SOper.mk none none (SOp.w (WOp.store 4 (SX.tmp 5) (SX.tmp 21))), [], [])])
  (SCode.seq (SCode.ops [SOper.mk (some 22) none (SOp.p (POp.loadn 4 (SX.tmp 3))), SOper.mk (some 23) none (SOp.call (SX.lit (AV.func 35 [])) [SX.tmp 22]), SOper.mk (some 6) none (SOp.p (POp.move (SX.tmp 23)))])
  (SCode.seq (SCode.ops [SOper.mk (some 7) none (SOp.p (POp.move (SX.lit AV.nils)))])
  (SCode.seq (SCode.ops [SOper.mk (some 8) none (SOp.p (POp.move (SX.lit AV.nils)))])
  (SCode.seq (SCode.seq (SCode.ops [SOper.mk (some 9) none (SOp.p (POp.move (SX.lit (AV.int IntKind.i64 0))))])
  (SCode.block 0 (SCode.loop c39_l0)))
  (SCode.seq (SCode.seq (SCode.ops [SOper.mk (some 68) none (SOp.p (POp.move (SX.tmp 7))), SOper.mk (some 69) none (SOp.p (POp.lenS (SX.tmp 68))), SOper.mk (some 12) none (SOp.p (POp.move (SX.tmp 69)))])
  (SCode.block 2 (SCode.loop c39_l1)))
  (SCode.seq (SCode.ops [SOper.mk (some 86) none (SOp.p (POp.loadn 4 (SX.tmp 5))), SOper.mk none none (SOp.w (WOp.store 4 (SX.tmp 4) (SX.tmp 86)))])
  SCode.ret)))))))), [ResV.celln 4 4]⟩
theorem code39 (own : FuncId → Option (List AV → Heap → R)) (mode : FuncId → Nat) : (slimPrg Tryd.prog own mode).code 39 = some c39 := by kernel_rfl
-- thunk/thunkref5.shape
def c40 : SFunc := ⟨144, (SCode.seq (SCode.ops [SOper.mk (some 1) none (SOp.a (AOp.box 28 (SX.tmp 0))), SOper.mk (some 2) none (SOp.p (POp.move (SX.lit (AV.bool false))))])
  (SCode.seq (SCode.draw [SOper.mk (some 5) none (SOp.p (POp.faddr 3 (SX.tmp 1))), SOper.mk (some 6) none (SOp.p (POp.load1 (SX.tmp 5))), SOper.mk (some 7) none (SOp.p (POp.lenS (SX.tmp 6))), SOper.mk (some 8) none (SOp.p (POp.faddr 2 (SX.tmp 1))), SOper.mk (some 9) none (SOp.p (POp.load1 (SX.tmp 8))), SOper.mk (some 10) none (SOp.p (POp.lenS (SX.tmp 9))), SOper.mk (some 3) none (SOp.p (POp.move (SX.tmp 7))), SOper.mk (some 4) none (SOp.p (POp.move (SX.tmp 10)))] [])
  (SCode.seq (SCode.seq (SCode.ops [SOper.mk (some 11) none (SOp.p (POp.faddr 0 (SX.tmp 1))), SOper.mk (some 12) none (SOp.p (POp.load1 (SX.tmp 11)))])
  (SCode.block 0 (SCode.seq (SCode.ops [SOper.mk (some 14) none (SOp.p (POp.bin BinOp.eql EqT.none (SX.tmp 12) (SX.lit (AV.int IntKind.i64 1)))), SOper.mk (some 13) none (SOp.p (POp.move (SX.tmp 14)))])
  (SCode.cond (SX.tmp 13)
  (SCode.seq (SCode.ops [SOper.mk (some 15) none (SOp.p (POp.faddr 1 (SX.tmp 1))), SOper.mk (some 16) none (SOp.p (POp.load1 (SX.tmp 15))), SOper.mk (some 17) none (SOp.call (SX.lit (AV.func 53 [])) [SX.tmp 16]), SOper.mk (some 18) none (SOp.p (POp.move (SX.tmp 17))), SOper.mk (some 19) (some (18, true)) (SOp.p (POp.move (SX.tmp 3))), SOper.mk (some 20) (some (18, true)) (SOp.p (POp.move (SX.tmp 4))), SOper.mk (some 21) (some (18, true)) (SOp.p (POp.bin BinOp.add EqT.none (SX.tmp 19) (SX.tmp 20))), SOper.mk (some 22) (some (18, true)) (SOp.p (POp.bin BinOp.eql EqT.none (SX.tmp 21) (SX.lit (AV.int IntKind.i64 0)))), SOper.mk (some 23) none (SOp.p (POp.pick (SX.tmp 18) (SX.tmp 22) (SX.lit (AV.bool false)))), SOper.mk (some 2) none (SOp.p (POp.move (SX.tmp 23)))])
  SCode.ret)
  (SCode.seq (SCode.ops [SOper.mk (some 25) none (SOp.p (POp.bin BinOp.eql EqT.none (SX.tmp 12) (SX.lit (AV.int IntKind.i64 2)))), SOper.mk (some 24) none (SOp.p (POp.move (SX.tmp 25)))])
  (SCode.cond (SX.tmp 24)
  (SCode.seq (SCode.ops [SOper.mk (some 26) none (SOp.p (POp.faddr 1 (SX.tmp 1))), SOper.mk (some 27) none (SOp.p (POp.load1 (SX.tmp 26))), SOper.mk (some 28) none (SOp.p (POp.bin BinOp.eql EqT.none (SX.tmp 27) (SX.lit (AV.str [35, 116])))), SOper.mk (some 29) none (SOp.p (POp.move (SX.tmp 28))), SOper.mk (some 30) (some (29, false)) (SOp.p (POp.faddr 1 (SX.tmp 1))), SOper.mk (some 31) (some (29, false)) (SOp.p (POp.load1 (SX.tmp 30))), SOper.mk (some 32) (some (29, false)) (SOp.p (POp.bin BinOp.eql EqT.none (SX.tmp 31) (SX.lit (AV.str [35, 102])))), SOper.mk (some 33) none (SOp.p (POp.pick (SX.tmp 29) (SX.lit (AV.bool true)) (SX.tmp 32))), SOper.mk (some 34) none (SOp.p (POp.move (SX.tmp 33))), SOper.mk (some 35) (some (34, true)) (SOp.p (POp.move (SX.tmp 3))), SOper.mk (some 36) (some (34, true)) (SOp.p (POp.move (SX.tmp 4))), SOper.mk (some 37) (some (34, true)) (SOp.p (POp.bin BinOp.add EqT.none (SX.tmp 35) (SX.tmp 36))), SOper.mk (some 38) (some (34, true)) (SOp.p (POp.bin BinOp.eql EqT.none (SX.tmp 37) (SX.lit (AV.int IntKind.i64 0)))), SOper.mk (some 39) none (SOp.p (POp.pick (SX.tmp 34) (SX.tmp 38) (SX.lit (AV.bool false)))), SOper.mk (some 2) none (SOp.p (POp.move (SX.tmp 39)))])
  SCode.ret)
  (SCode.seq (SCode.ops [SOper.mk (some 41) none (SOp.p (POp.bin BinOp.eql EqT.none (SX.tmp 12) (SX.lit (AV.int IntKind.i64 3)))), SOper.mk (some 40) none (SOp.p (POp.move (SX.tmp 41)))])
  (SCode.cond (SX.tmp 40)
  (SCode.seq (SCode.ops [SOper.mk (some 42) none (SOp.p (POp.faddr 1 (SX.tmp 1))), SOper.mk (some 43) none (SOp.p (POp.load1 (SX.tmp 42))), SOper.mk (some 44) none (SOp.p (POp.bin BinOp.eql EqT.none (SX.tmp 43) (SX.lit (AV.str [])))), SOper.mk (some 45) none (SOp.p (POp.move (SX.tmp 44))), SOper.mk (some 46) (some (45, true)) (SOp.p (POp.move (SX.tmp 3))), SOper.mk (some 47) (some (45, true)) (SOp.p (POp.move (SX.tmp 4))), SOper.mk (some 48) (some (45, true)) (SOp.p (POp.bin BinOp.add EqT.none (SX.tmp 46) (SX.tmp 47))), SOper.mk (some 49) (some (45, true)) (SOp.p (POp.bin BinOp.eql EqT.none (SX.tmp 48) (SX.lit (AV.int IntKind.i64 0)))), SOper.mk (some 50) none (SOp.p (POp.pick (SX.tmp 45) (SX.tmp 49) (SX.lit (AV.bool false)))), SOper.mk (some 2) none (SOp.p (POp.move (SX.tmp 50)))])
  SCode.ret)
  (SCode.seq (SCode.seq (SCode.ops [SOper.mk (some 52) none (SOp.p (POp.bin BinOp.eql EqT.none (SX.tmp 12) (SX.lit (AV.int IntKind.i64 4)))), SOper.mk (some 51) none (SOp.p (POp.move (SX.tmp 52)))])
  (SCode.cond (SX.tmp 51)
  SCode.skip
  (SCode.ops [SOper.mk (some 53) none (SOp.p (POp.bin BinOp.eql EqT.none (SX.tmp 12) (SX.lit (AV.int IntKind.i64 5)))), SOper.mk (some 51) none (SOp.p (POp.move (SX.tmp 53)))])))
  (SCode.cond (SX.tmp 51)
  (SCode.seq (SCode.ops [SOper.mk (some 54) none (SOp.p (POp.faddr 1 (SX.tmp 1))), SOper.mk (some 55) none (SOp.p (POp.load1 (SX.tmp 54))), SOper.mk (some 56) none (SOp.p (POp.bin BinOp.neq EqT.none (SX.tmp 55) (SX.lit (AV.str [])))), SOper.mk (some 57) none (SOp.p (POp.move (SX.tmp 56))), SOper.mk (some 58) (some (57, true)) (SOp.p (POp.move (SX.tmp 3))), SOper.mk (some 59) (some (57, true)) (SOp.p (POp.move (SX.tmp 4))), SOper.mk (some 60) (some (57, true)) (SOp.p (POp.bin BinOp.add EqT.none (SX.tmp 58) (SX.tmp 59))), SOper.mk (some 61) (some (57, true)) (SOp.p (POp.bin BinOp.eql EqT.none (SX.tmp 60) (SX.lit (AV.int IntKind.i64 0)))), SOper.mk (some 62) none (SOp.p (POp.pick (SX.tmp 57) (SX.tmp 61) (SX.lit (AV.bool false)))), SOper.mk (some 2) none (SOp.p (POp.move (SX.tmp 62)))])
  SCode.ret)
  (SCode.seq (SCode.ops [SOper.mk (some 64) none (SOp.p (POp.bin BinOp.eql EqT.none (SX.tmp 12) (SX.lit (AV.int IntKind.i64 6)))), SOper.mk (some 63) none (SOp.p (POp.move (SX.tmp 64)))])
  (SCode.cond (SX.tmp 63)
  (SCode.seq (SCode.ops [SOper.mk (some 65) none (SOp.p (POp.faddr 1 (SX.tmp 1))), SOper.mk (some 66) none (SOp.p (POp.load1 (SX.tmp 65))), SOper.mk (some 67) none (SOp.p (POp.bin BinOp.eql EqT.none (SX.tmp 66) (SX.lit (AV.str [])))), SOper.mk (some 68) none (SOp.p (POp.move (SX.tmp 67))), SOper.mk (some 69) (some (68, true)) (SOp.p (POp.move (SX.tmp 4))), SOper.mk (some 70) (some (68, true)) (SOp.p (POp.bin BinOp.gtr EqT.none (SX.tmp 69) (SX.lit (AV.int IntKind.i64 0)))), SOper.mk (some 71) none (SOp.p (POp.pick (SX.tmp 68) (SX.tmp 70) (SX.lit (AV.bool false)))), SOper.mk (some 72) none (SOp.p (POp.move (SX.tmp 71))), SOper.mk (some 73) (some (72, true)) (SOp.p (POp.move (SX.tmp 3))), SOper.mk (some 74) (some (72, true)) (SOp.p (POp.bin BinOp.eql EqT.none (SX.tmp 73) (SX.lit (AV.int IntKind.i64 1)))), SOper.mk (some 75) none (SOp.p (POp.pick (SX.tmp 72) (SX.tmp 74) (SX.lit (AV.bool false)))), SOper.mk (some 76) none (SOp.p (POp.move (SX.tmp 75))), SOper.mk (some 77) (some (76, true)) (SOp.p (POp.faddr 2 (SX.tmp 1))), SOper.mk (some 78) (some (76, true)) (SOp.p (POp.load1 (SX.tmp 77))), SOper.mk (some 79) (some (76, true)) (SOp.call (SX.lit (AV.func 21 [])) [SX.tmp 78]), SOper.mk (some 80) none (SOp.p (POp.pick (SX.tmp 76) (SX.tmp 79) (SX.lit (AV.bool false)))), SOper.mk (some 2) none (SOp.p (POp.move (SX.tmp 80)))])
  SCode.ret)
  (SCode.seq (SCode.ops [SOper.mk (some 82) none (SOp.p (POp.bin BinOp.eql EqT.none (SX.tmp 12) (SX.lit (AV.int IntKind.i64 7)))), SOper.mk (some 81) none (SOp.p (POp.move (SX.tmp 82)))])
  (SCode.cond (SX.tmp 81)
  (SCode.seq (SCode.ops [SOper.mk (some 83) none (SOp.p (POp.faddr 1 (SX.tmp 1))), SOper.mk (some 84) none (SOp.p (POp.load1 (SX.tmp 83))), SOper.mk (some 85) none (SOp.p (POp.bin BinOp.eql EqT.none (SX.tmp 84) (SX.lit (AV.str [])))), SOper.mk (some 86) none (SOp.p (POp.move (SX.tmp 85))), SOper.mk (some 87) (some (86, true)) (SOp.p (POp.move (SX.tmp 4))), SOper.mk (some 88) (some (86, true)) (SOp.p (POp.bin BinOp.eql EqT.none (SX.tmp 87) (SX.lit (AV.int IntKind.i64 0)))), SOper.mk (some 89) none (SOp.p (POp.pick (SX.tmp 86) (SX.tmp 88) (SX.lit (AV.bool false)))), SOper.mk (some 90) none (SOp.p (POp.move (SX.tmp 89))), SOper.mk (some 91) (some (90, true)) (SOp.p (POp.move (SX.tmp 3))), SOper.mk (some 92) (some (90, true)) (SOp.p (POp.bin BinOp.geq EqT.none (SX.tmp 91) (SX.lit (AV.int IntKind.i64 2)))), SOper.mk (some 93) none (SOp.p (POp.pick (SX.tmp 90) (SX.tmp 92) (SX.lit (AV.bool false)))), SOper.mk (some 2) none (SOp.p (POp.move (SX.tmp 93)))])
  SCode.ret)
  (SCode.seq (SCode.ops [SOper.mk (some 95) none (SOp.p (POp.bin BinOp.eql EqT.none (SX.tmp 12) (SX.lit (AV.int IntKind.i64 8)))), SOper.mk (some 94) none (SOp.p (POp.move (SX.tmp 95)))])
  (SCode.cond (SX.tmp 94)
  (SCode.seq (SCode.ops [SOper.mk (some 96) none (SOp.p (POp.faddr 1 (SX.tmp 1))), SOper.mk (some 97) none (SOp.p (POp.load1 (SX.tmp 96))), SOper.mk (some 98) none (SOp.p (POp.bin BinOp.eql EqT.none (SX.tmp 97) (SX.lit (AV.str [])))), SOper.mk (some 99) none (SOp.p (POp.move (SX.tmp 98))), SOper.mk (some 100) (some (99, true)) (SOp.p (POp.move (SX.tmp 4))), SOper.mk (some 101) (some (99, true)) (SOp.p (POp.bin BinOp.eql EqT.none (SX.tmp 100) (SX.lit (AV.int IntKind.i64 0)))), SOper.mk (some 102) none (SOp.p (POp.pick (SX.tmp 99) (SX.tmp 101) (SX.lit (AV.bool false)))), SOper.mk (some 103) none (SOp.p (POp.move (SX.tmp 102))), SOper.mk (some 104) (some (103, true)) (SOp.p (POp.move (SX.tmp 3))), SOper.mk (some 105) (some (103, true)) (SOp.p (POp.bin BinOp.eql EqT.none (SX.tmp 104) (SX.lit (AV.int IntKind.i64 3)))), SOper.mk (some 106) none (SOp.p (POp.pick (SX.tmp 103) (SX.tmp 105) (SX.lit (AV.bool false)))), SOper.mk (some 2) none (SOp.p (POp.move (SX.tmp 106)))])
  SCode.ret)
  (SCode.seq (SCode.ops [SOper.mk (some 108) none (SOp.p (POp.bin BinOp.eql EqT.none (SX.tmp 12) (SX.lit (AV.int IntKind.i64 9)))), SOper.mk (some 107) none (SOp.p (POp.move (SX.tmp 108)))])
  (SCode.cond (SX.tmp 107)
  (SCode.seq (SCode.ops [SOper.mk (some 109) none (SOp.p (POp.faddr 1 (SX.tmp 1))), SOper.mk (some 110) none (SOp.p (POp.load1 (SX.tmp 109))), SOper.mk (some 111) none (SOp.p (POp.bin BinOp.eql EqT.none (SX.tmp 110) (SX.lit (AV.str [])))), SOper.mk (some 112) none (SOp.p (POp.move (SX.tmp 111))), SOper.mk (some 113) (some (112, true)) (SOp.p (POp.move (SX.tmp 4))), SOper.mk (some 114) (some (112, true)) (SOp.p (POp.bin BinOp.gtr EqT.none (SX.tmp 113) (SX.lit (AV.int IntKind.i64 0)))), SOper.mk (some 115) none (SOp.p (POp.pick (SX.tmp 112) (SX.tmp 114) (SX.lit (AV.bool false)))), SOper.mk (some 116) none (SOp.p (POp.move (SX.tmp 115))), SOper.mk (some 117) (some (116, true)) (SOp.p (POp.move (SX.tmp 3))), SOper.mk (some 118) (some (116, true)) (SOp.p (POp.move (SX.tmp 4))), SOper.mk (some 119) (some (116, true)) (SOp.p (POp.bin BinOp.add EqT.none (SX.tmp 118) (SX.lit (AV.int IntKind.i64 1)))), SOper.mk (some 120) (some (116, true)) (SOp.p (POp.bin BinOp.eql EqT.none (SX.tmp 117) (SX.tmp 119))), SOper.mk (some 121) none (SOp.p (POp.pick (SX.tmp 116) (SX.tmp 120) (SX.lit (AV.bool false)))), SOper.mk (some 122) none (SOp.p (POp.move (SX.tmp 121))), SOper.mk (some 123) (some (122, true)) (SOp.p (POp.faddr 2 (SX.tmp 1))), SOper.mk (some 124) (some (122, true)) (SOp.p (POp.load1 (SX.tmp 123))), SOper.mk (some 125) (some (122, true)) (SOp.call (SX.lit (AV.func 21 [])) [SX.tmp 124]), SOper.mk (some 126) none (SOp.p (POp.pick (SX.tmp 122) (SX.tmp 125) (SX.lit (AV.bool false)))), SOper.mk (some 2) none (SOp.p (POp.move (SX.tmp 126)))])
  SCode.ret)
  (SCode.seq (SCode.ops [SOper.mk (some 128) none (SOp.p (POp.bin BinOp.eql EqT.none (SX.tmp 12) (SX.lit (AV.int IntKind.i64 10)))), SOper.mk (some 127) none (SOp.p (POp.move (SX.tmp 128)))])
  (SCode.cond (SX.tmp 127)
  (SCode.seq (SCode.ops [SOper.mk (some 129) none (SOp.p (POp.faddr 1 (SX.tmp 1))), SOper.mk (some 130) none (SOp.p (POp.load1 (SX.tmp 129))), SOper.mk (some 131) none (SOp.call (SX.lit (AV.func 47 [])) [SX.tmp 130]), SOper.mk (some 132) none (SOp.p (POp.bin BinOp.gtr EqT.none (SX.tmp 131) (SX.lit (AV.int IntKind.i64 0)))), SOper.mk (some 133) none (SOp.p (POp.move (SX.tmp 132))), SOper.mk (some 134) (some (133, true)) (SOp.p (POp.move (SX.tmp 3))), SOper.mk (some 135) (some (133, true)) (SOp.p (POp.faddr 1 (SX.tmp 1))), SOper.mk (some 136) (some (133, true)) (SOp.p (POp.load1 (SX.tmp 135))), SOper.mk (some 137) (some (133, true)) (SOp.call (SX.lit (AV.func 47 [])) [SX.tmp 136]), SOper.mk (some 138) (some (133, true)) (SOp.p (POp.bin BinOp.eql EqT.none (SX.tmp 134) (SX.tmp 137))), SOper.mk (some 139) none (SOp.p (POp.pick (SX.tmp 133) (SX.tmp 138) (SX.lit (AV.bool false)))), SOper.mk (some 140) none (SOp.p (POp.move (SX.tmp 139))), SOper.mk (some 141) (some (140, true)) (SOp.p (POp.move (SX.tmp 4))), SOper.mk (some 142) (some (140, true)) (SOp.p (POp.bin BinOp.eql EqT.none (SX.tmp 141) (SX.lit (AV.int IntKind.i64 0)))), SOper.mk (some 143) none (SOp.p (POp.pick (SX.tmp 140) (SX.tmp 142) (SX.lit (AV.bool false)))), SOper.mk (some 2) none (SOp.p (POp.move (SX.tmp 143)))])
  SCode.ret)
  SCode.skip))))))))))))))))))))
  (SCode.seq (SCode.ops [SOper.mk (some 2) none (SOp.p (POp.move (SX.lit (AV.bool false))))])
  SCode.ret)))), [ResV.tmp 2]⟩
theorem code40 (own : FuncId → Option (List AV → Heap → R)) (mode : FuncId → Nat) : (slimPrg Tryd.prog own mode).code 40 = some c40 := by kernel_rfl
-- thunk/thunkref5.With
def c41_l0 : SCode :=
  (SCode.seq (SCode.seq (SCode.ops [SOper.mk (some 10) none (SOp.p (POp.move (SX.tmp 5))), SOper.mk (some 11) none (SOp.p (POp.move (SX.tmp 0))), SOper.mk (some 12) none (SOp.p (POp.lenS (SX.tmp 11))), SOper.mk (some 13) none (SOp.p (POp.bin BinOp.lss EqT.none (SX.tmp 10) (SX.tmp 12))), SOper.mk (some 14) none (SOp.p (POp.move (SX.tmp 13))), SOper.mk (some 15) (some (14, true)) (SOp.p (POp.move (SX.tmp 0))), SOper.mk (some 16) (some (14, true)) (SOp.p (POp.move (SX.tmp 5))), SOper.mk (some 17) (some (14, true)) (SOp.p (POp.iaddr 1 (SX.tmp 15) (SX.tmp 16))), SOper.mk (some 18) (some (14, true)) (SOp.p (POp.load1 (SX.tmp 17))), SOper.mk (some 19) (some (14, true)) (SOp.p (POp.move (SX.tmp 1))), SOper.mk (some 20) (some (14, true)) (SOp.p (POp.bin BinOp.lss EqT.none (SX.tmp 18) (SX.tmp 19))), SOper.mk (some 21) none (SOp.p (POp.pick (SX.tmp 14) (SX.tmp 20) (SX.lit (AV.bool false))))])
  (SCode.cond (SX.tmp 21)
  SCode.skip
  (SCode.exit 0)))
  (SCode.block 1 (SCode.ops [SOper.mk (some 22) none (SOp.p (POp.move (SX.tmp 5))), SOper.mk (some 23) none (SOp.p (POp.bin BinOp.add EqT.none (SX.tmp 22) (SX.lit (AV.int IntKind.i64 1)))), SOper.mk (some 5) none (SOp.p (POp.move (SX.tmp 23)))])))
def c41 : SFunc := ⟨36, (SCode.seq (SCode.ops [SOper.mk (some 4) none (SOp.p (POp.move (SX.lit AV.nils)))])
  (SCode.seq (SCode.seq (SCode.ops [SOper.mk (some 6) none (SOp.p (POp.move (SX.tmp 0))), SOper.mk (some 7) none (SOp.p (POp.move (SX.tmp 1))), SOper.mk (some 8) none (SOp.call (SX.lit (AV.func 43 [])) [SX.tmp 6, SX.tmp 7])])
  (SCode.cond (SX.tmp 8)
  (SCode.seq (SCode.ops [SOper.mk (some 9) none (SOp.p (POp.move (SX.tmp 0))), SOper.mk (some 4) none (SOp.p (POp.move (SX.tmp 9)))])
  SCode.ret)
  SCode.skip))
  (SCode.seq (SCode.ops [SOper.mk (some 5) none (SOp.p (POp.move (SX.lit (AV.int IntKind.i64 0))))])
  (SCode.seq (SCode.block 0 (SCode.loop c41_l0))
  (SCode.seq (SCode.draw [SOper.mk (some 24) none (SOp.a (AOp.buildS [] 0 [])), SOper.mk (some 25) none (SOp.p (POp.move (SX.tmp 0))), SOper.mk (some 26) none (SOp.p (POp.move (SX.tmp 5))), SOper.mk (some 27) none (SOp.p (POp.sliceS 1 (SX.tmp 25) none (some (SX.tmp 26)) none)), SOper.mk (some 29) none (SOp.p (POp.move (SX.tmp 1))), SOper.mk (some 30) none (SOp.a (AOp.buildS [AV.str []] 1 [(0, 1, SX.tmp 29)])), SOper.mk (some 32) none (SOp.p (POp.move (SX.tmp 0))), SOper.mk (some 33) none (SOp.p (POp.move (SX.tmp 5))), SOper.mk (some 34) none (SOp.p (POp.sliceS 1 (SX.tmp 32) (some (SX.tmp 33)) none none))] [(SOper.mk (some 28) none (SOp.w (WOp.append 9 1 16 (SX.tmp 24) (SX.tmp 27))), [], []), (SOper.mk (some 31) none (SOp.w (WOp.append 9 1 16 (SX.tmp 28) (SX.tmp 30))), [], []), (SOper.mk (some 35) none (SOp.w (WOp.append 9 1 16 (SX.tmp 31) (SX.tmp 34))), [], [SOper.mk (some 4) none (SOp.p (POp.move (SX.tmp 35)))])])
  SCode.ret))))), [ResV.tmp 4]⟩
theorem code41 (own : FuncId → Option (List AV → Heap → R)) (mode : FuncId → Nat) : (slimPrg Tryd.prog own mode).code 41 = some c41 := by kernel_rfl
-- thunk/thunkref5.Without
def c42_l0 : SCode :=
  (SCode.seq (SCode.seq (SCode.ops [SOper.mk (some 7) none (SOp.p (POp.move (SX.tmp 6))), SOper.mk (some 8) none (SOp.p (POp.move (SX.tmp 0))), SOper.mk (some 9) none (SOp.p (POp.lenS (SX.tmp 8))), SOper.mk (some 10) none (SOp.p (POp.bin BinOp.lss EqT.none (SX.tmp 7) (SX.tmp 9)))])
  (SCode.cond (SX.tmp 10)
  SCode.skip
  (SCode.exit 0)))
  (SCode.seq (SCode.block 1 (SCode.seq (SCode.ops [SOper.mk (some 13) none (SOp.p (POp.move (SX.tmp 1))), SOper.mk (some 14) none (SOp.p (POp.move (SX.tmp 0))), SOper.mk (some 15) none (SOp.p (POp.move (SX.tmp 6))), SOper.mk (some 16) none (SOp.p (POp.iaddr 1 (SX.tmp 14) (SX.tmp 15))), SOper.mk (some 17) none (SOp.p (POp.load1 (SX.tmp 16))), SOper.mk (some 18) none (SOp.call (SX.lit (AV.func 43 [])) [SX.tmp 13, SX.tmp 17]), SOper.mk (some 19) none (SOp.p (POp.not (SX.tmp 18)))])
  (SCode.cond (SX.tmp 19)
  (SCode.ops [SOper.mk (some 20) none (SOp.p (POp.move (SX.tmp 5))), SOper.mk (some 21) none (SOp.p (POp.move (SX.tmp 0))), SOper.mk (some 22) none (SOp.p (POp.move (SX.tmp 6))), SOper.mk (some 23) none (SOp.p (POp.iaddr 1 (SX.tmp 21) (SX.tmp 22))), SOper.mk (some 24) none (SOp.p (POp.load1 (SX.tmp 23))), SOper.mk (some 25) none (SOp.a (AOp.buildS [AV.str []] 1 [(0, 1, SX.tmp 24)])), SOper.mk (some 26) none (SOp.w (WOp.append 9 1 16 (SX.tmp 20) (SX.tmp 25))), SOper.mk (some 5) none (SOp.p (POp.move (SX.tmp 26)))])
  SCode.skip)))
  (SCode.ops [SOper.mk (some 11) none (SOp.p (POp.move (SX.tmp 6))), SOper.mk (some 12) none (SOp.p (POp.bin BinOp.add EqT.none (SX.tmp 11) (SX.lit (AV.int IntKind.i64 1)))), SOper.mk (some 6) none (SOp.p (POp.move (SX.tmp 12)))])))
def c42 : SFunc := ⟨28, (SCode.seq (SCode.ops [SOper.mk (some 4) none (SOp.p (POp.move (SX.lit AV.nils)))])
  (SCode.seq (SCode.ops [SOper.mk (some 5) none (SOp.p (POp.move (SX.lit AV.nils)))])
  (SCode.seq (SCode.seq (SCode.ops [SOper.mk (some 6) none (SOp.p (POp.move (SX.lit (AV.int IntKind.i64 0))))])
  (SCode.block 0 (SCode.loop c42_l0)))
  (SCode.seq (SCode.ops [SOper.mk (some 27) none (SOp.p (POp.move (SX.tmp 5))), SOper.mk (some 4) none (SOp.p (POp.move (SX.tmp 27)))])
  SCode.ret)))), [ResV.tmp 4]⟩
theorem code42 (own : FuncId → Option (List AV → Heap → R)) (mode : FuncId → Nat) : (slimPrg Tryd.prog own mode).code 42 = some c42 := by kernel_rfl
-- thunk/thunkref5.In
def c43_l0 : SCode :=
  (SCode.seq (SCode.seq (SCode.ops [SOper.mk (some 6) none (SOp.p (POp.move (SX.tmp 5))), SOper.mk (some 7) none (SOp.p (POp.move (SX.tmp 0))), SOper.mk (some 8) none (SOp.p (POp.lenS (SX.tmp 7))), SOper.mk (some 9) none (SOp.p (POp.bin BinOp.lss EqT.none (SX.tmp 6) (SX.tmp 8)))])
  (SCode.cond (SX.tmp 9)
  SCode.skip
  (SCode.exit 0)))
  (SCode.seq (SCode.block 1 (SCode.seq (SCode.ops [SOper.mk (some 12) none (SOp.p (POp.move (SX.tmp 0))), SOper.mk (some 13) none (SOp.p (POp.move (SX.tmp 5))), SOper.mk (some 14) none (SOp.p (POp.iaddr 1 (SX.tmp 12) (SX.tmp 13))), SOper.mk (some 15) none (SOp.p (POp.load1 (SX.tmp 14))), SOper.mk (some 16) none (SOp.p (POp.move (SX.tmp 1))), SOper.mk (some 17) none (SOp.p (POp.bin BinOp.eql EqT.none (SX.tmp 15) (SX.tmp 16)))])
  (SCode.cond (SX.tmp 17)
  (SCode.seq (SCode.ops [SOper.mk (some 4) none (SOp.p (POp.move (SX.lit (AV.bool true))))])
  SCode.ret)
  SCode.skip)))
  (SCode.ops [SOper.mk (some 10) none (SOp.p (POp.move (SX.tmp 5))), SOper.mk (some 11) none (SOp.p (POp.bin BinOp.add EqT.none (SX.tmp 10) (SX.lit (AV.int IntKind.i64 1)))), SOper.mk (some 5) none (SOp.p (POp.move (SX.tmp 11)))])))
def c43 : SFunc := ⟨18, (SCode.seq (SCode.ops [SOper.mk (some 4) none (SOp.p (POp.move (SX.lit (AV.bool false))))])
  (SCode.seq (SCode.seq (SCode.ops [SOper.mk (some 5) none (SOp.p (POp.move (SX.lit (AV.int IntKind.i64 0))))])
  (SCode.block 0 (SCode.loop c43_l0)))
  (SCode.seq (SCode.ops [SOper.mk (some 4) none (SOp.p (POp.move (SX.lit (AV.bool false))))])
  SCode.ret))), [ResV.tmp 4]⟩
theorem code43 (own : FuncId → Option (List AV → Heap → R)) (mode : FuncId → Nat) : (slimPrg Tryd.prog own mode).code 43 = some c43 := by kernel_rfl
-- thunk/thunkref5.row
def c44_l0 : SCode :=
  (SCode.seq (SCode.seq (SCode.ops [SOper.mk (some 5) none (SOp.p (POp.move (SX.tmp 4))), SOper.mk (some 6) none (SOp.p (POp.move (SX.tmp 0))), SOper.mk (some 7) none (SOp.p (POp.lenS (SX.tmp 6))), SOper.mk (some 8) none (SOp.p (POp.bin BinOp.lss EqT.none (SX.tmp 5) (SX.tmp 7)))])
  (SCode.cond (SX.tmp 8)
  SCode.skip
  (SCode.exit 0)))
  (SCode.seq (SCode.block 1 (SCode.seq (SCode.seq (SCode.ops [SOper.mk (some 11) none (SOp.p (POp.move (SX.tmp 4))), SOper.mk (some 12) none (SOp.p (POp.bin BinOp.gtr EqT.none (SX.tmp 11) (SX.lit (AV.int IntKind.i64 0))))])
  (SCode.cond (SX.tmp 12)
  (SCode.ops [SOper.mk (some 13) none (SOp.p (POp.move (SX.tmp 3))), SOper.mk (some 14) none (SOp.p (POp.bin BinOp.add EqT.none (SX.tmp 13) (SX.lit (AV.str [32])))), SOper.mk (some 3) none (SOp.p (POp.move (SX.tmp 14)))])
  SCode.skip))
  (SCode.ops [SOper.mk (some 15) none (SOp.p (POp.move (SX.tmp 3))), SOper.mk (some 16) none (SOp.p (POp.move (SX.tmp 0))), SOper.mk (some 17) none (SOp.p (POp.move (SX.tmp 4))), SOper.mk (some 18) none (SOp.p (POp.iaddr 4 (SX.tmp 16) (SX.tmp 17))), SOper.mk (some 19) none (SOp.p (POp.loadn 4 (SX.tmp 18))), SOper.mk (some 20) none (SOp.call (SX.lit (AV.func 26 [])) [SX.tmp 19]), SOper.mk (some 21) none (SOp.p (POp.bin BinOp.add EqT.none (SX.tmp 15) (SX.tmp 20))), SOper.mk (some 3) none (SOp.p (POp.move (SX.tmp 21)))])))
  (SCode.ops [SOper.mk (some 9) none (SOp.p (POp.move (SX.tmp 4))), SOper.mk (some 10) none (SOp.p (POp.bin BinOp.add EqT.none (SX.tmp 9) (SX.lit (AV.int IntKind.i64 1)))), SOper.mk (some 4) none (SOp.p (POp.move (SX.tmp 10)))])))
def c44 : SFunc := ⟨23, (SCode.seq (SCode.ops [SOper.mk (some 2) none (SOp.p (POp.move (SX.lit (AV.str []))))])
  (SCode.seq (SCode.ops [SOper.mk (some 3) none (SOp.p (POp.move (SX.lit (AV.str []))))])
  (SCode.seq (SCode.seq (SCode.ops [SOper.mk (some 4) none (SOp.p (POp.move (SX.lit (AV.int IntKind.i64 0))))])
  (SCode.block 0 (SCode.loop c44_l0)))
  (SCode.seq (SCode.ops [SOper.mk (some 22) none (SOp.p (POp.move (SX.tmp 3))), SOper.mk (some 2) none (SOp.p (POp.move (SX.tmp 22)))])
  SCode.ret)))), [ResV.tmp 2]⟩
theorem code44 (own : FuncId → Option (List AV → Heap → R)) (mode : FuncId → Nat) : (slimPrg Tryd.prog own mode).code 44 = some c44 := by kernel_rfl
-- thunk/thunklaw5.within
def c45 : SFunc := ⟨15, (SCode.seq (SCode.ops [SOper.mk (some 4) none (SOp.p (POp.move (SX.lit (AV.int IntKind.i64 0))))])
  (SCode.seq (SCode.ops [SOper.mk (some 6) none (SOp.p (POp.move (SX.tmp 0))), SOper.mk (some 7) none (SOp.p (POp.move (SX.tmp 1))), SOper.mk (some 8) none (SOp.p (POp.bin BinOp.rem EqT.none (SX.tmp 6) (SX.tmp 7))), SOper.mk (some 5) none (SOp.p (POp.move (SX.tmp 8)))])
  (SCode.seq (SCode.seq (SCode.ops [SOper.mk (some 9) none (SOp.p (POp.move (SX.tmp 5))), SOper.mk (some 10) none (SOp.p (POp.bin BinOp.lss EqT.none (SX.tmp 9) (SX.lit (AV.int IntKind.i64 0))))])
  (SCode.cond (SX.tmp 10)
  (SCode.ops [SOper.mk (some 11) none (SOp.p (POp.move (SX.tmp 5))), SOper.mk (some 12) none (SOp.p (POp.move (SX.tmp 1))), SOper.mk (some 13) none (SOp.p (POp.bin BinOp.add EqT.none (SX.tmp 11) (SX.tmp 12))), SOper.mk (some 5) none (SOp.p (POp.move (SX.tmp 13)))])
  SCode.skip))
  (SCode.seq (SCode.ops [SOper.mk (some 14) none (SOp.p (POp.move (SX.tmp 5))), SOper.mk (some 4) none (SOp.p (POp.move (SX.tmp 14)))])
  SCode.ret)))), [ResV.tmp 4]⟩
theorem code45 (own : FuncId → Option (List AV → Heap → R)) (mode : FuncId → Nat) : (slimPrg Tryd.prog own mode).code 45 = some c45 := by kernel_rfl
-- (*thunk/thunklaw5.Maker).part
def c46 : SFunc := ⟨54, (SCode.seq (SCode.ops [SOper.mk (some 5) none (SOp.a (AOp.box 53 (SX.tmp 1))), SOper.mk (some 8) none (SOp.a (AOp.newc 28 [AV.int IntKind.i64 0, AV.str [], AV.nils, AV.nils]))])
  (SCode.seq (SCode.seq (SCode.ops [SOper.mk (some 9) none (SOp.p (POp.move (SX.tmp 2))), SOper.mk (some 10) none (SOp.p (POp.faddr 2 (SX.tmp 5))), SOper.mk (some 11) none (SOp.p (POp.load1 (SX.tmp 10))), SOper.mk (some 12) none (SOp.p (POp.lenS (SX.tmp 11))), SOper.mk (some 13) none (SOp.p (POp.bin BinOp.lss EqT.none (SX.tmp 9) (SX.tmp 12)))])
  (SCode.cond (SX.tmp 13)
  (SCode.seq (SCode.ops [SOper.mk (some 14) none (SOp.p (POp.move (SX.tmp 0))), SOper.mk (some 15) none (SOp.p (POp.faddr 2 (SX.tmp 5))), SOper.mk (some 16) none (SOp.p (POp.load1 (SX.tmp 15))), SOper.mk (some 17) none (SOp.p (POp.move (SX.tmp 2))), SOper.mk (some 18) none (SOp.p (POp.iaddr 3 (SX.tmp 16) (SX.tmp 17))), SOper.mk (some 19) none (SOp.p (POp.loadn 3 (SX.tmp 18))), SOper.mk (some 20) none (SOp.p (POp.move (SX.tmp 3))), SOper.mk (some 21) none (SOp.call (SX.lit (AV.func 30 [])) [SX.tmp 14, SX.tmp 19, SX.tmp 20]), SOper.mk none none (SOp.w (WOp.store 4 (SX.tmp 8) (SX.tmp 21)))])
  SCode.ret)
  SCode.skip))
  (SCode.seq (SCode.seq (SCode.ops [SOper.mk (some 22) none (SOp.p (POp.move (SX.tmp 3))), SOper.mk (some 23) none (SOp.p (POp.lenS (SX.tmp 22))), SOper.mk (some 24) none (SOp.p (POp.bin BinOp.gtr EqT.none (SX.tmp 23) (SX.lit (AV.int IntKind.i64 0)))), SOper.mk (some 25) none (SOp.p (POp.move (SX.tmp 24))), SOper.mk (some 26) (some (25, true)) (SOp.p (POp.faddr 1 (SX.tmp 5))), SOper.mk (some 27) (some (25, true)) (SOp.p (POp.load1 (SX.tmp 26))), SOper.mk (some 28) (some (25, true)) (SOp.p (POp.move (SX.tmp 2))), SOper.mk (some 29) (some (25, true)) (SOp.p (POp.bin BinOp.add EqT.none (SX.tmp 27) (SX.tmp 28))), SOper.mk (some 30) (some (25, true)) (SOp.call (SX.lit (AV.func 45 [])) [SX.tmp 29, SX.lit (AV.int IntKind.i64 3)]), SOper.mk (some 31) (some (25, true)) (SOp.p (POp.bin BinOp.gtr EqT.none (SX.tmp 30) (SX.lit (AV.int IntKind.i64 0)))), SOper.mk (some 32) none (SOp.p (POp.pick (SX.tmp 25) (SX.tmp 31) (SX.lit (AV.bool false))))])
  (SCode.cond (SX.tmp 32)
  (SCode.seq (SCode.ops [SOper.mk (some 33) none (SOp.p (POp.move (SX.tmp 3))), SOper.mk (some 34) none (SOp.p (POp.faddr 1 (SX.tmp 5))), SOper.mk (some 35) none (SOp.p (POp.load1 (SX.tmp 34))), SOper.mk (some 36) none (SOp.p (POp.move (SX.tmp 2))), SOper.mk (some 37) none (SOp.p (POp.bin BinOp.mul EqT.none (SX.lit (AV.int IntKind.i64 7)) (SX.tmp 36))), SOper.mk (some 38) none (SOp.p (POp.bin BinOp.add EqT.none (SX.tmp 35) (SX.tmp 37))), SOper.mk (some 39) none (SOp.p (POp.move (SX.tmp 3))), SOper.mk (some 40) none (SOp.p (POp.lenS (SX.tmp 39))), SOper.mk (some 41) none (SOp.call (SX.lit (AV.func 45 [])) [SX.tmp 38, SX.tmp 40]), SOper.mk (some 42) none (SOp.p (POp.iaddr 1 (SX.tmp 33) (SX.tmp 41))), SOper.mk (some 43) none (SOp.p (POp.load1 (SX.tmp 42))), SOper.mk (some 44) none (SOp.call (SX.lit (AV.func 25 [])) [SX.tmp 43]), SOper.mk none none (SOp.w (WOp.store 4 (SX.tmp 8) (SX.tmp 44)))])
  SCode.ret)
  SCode.skip))
  (SCode.seq (SCode.ops [SOper.mk (some 45) none (SOp.a (AOp.buildS [AV.str [], AV.str [], AV.str [], AV.str [], AV.str []] 5 [(0, 1, SX.lit (AV.str [48])), (1, 1, SX.lit (AV.str [49])), (2, 1, SX.lit (AV.str [50])), (3, 1, SX.lit (AV.str [45, 51])), (4, 1, SX.lit (AV.str [49, 48]))])), SOper.mk (some 46) none (SOp.p (POp.faddr 1 (SX.tmp 5))), SOper.mk (some 47) none (SOp.p (POp.load1 (SX.tmp 46))), SOper.mk (some 48) none (SOp.p (POp.move (SX.tmp 2))), SOper.mk (some 49) none (SOp.p (POp.bin BinOp.add EqT.none (SX.tmp 47) (SX.tmp 48))), SOper.mk (some 50) none (SOp.call (SX.lit (AV.func 45 [])) [SX.tmp 49, SX.lit (AV.int IntKind.i64 5)]), SOper.mk (some 51) none (SOp.p (POp.iaddr 1 (SX.tmp 45) (SX.tmp 50))), SOper.mk (some 52) none (SOp.p (POp.load1 (SX.tmp 51))), SOper.mk (some 53) none (SOp.p (POp.build [AV.int IntKind.i64 0, AV.str [], AV.nils, AV.nils] [(0, 1, SX.lit (AV.int IntKind.i64 1)), (1, 1, SX.tmp 52)])), SOper.mk none none (SOp.w (WOp.store 4 (SX.tmp 8) (SX.tmp 53)))])
  SCode.ret)))), [ResV.celln 8 4]⟩
theorem code46 (own : FuncId → Option (List AV → Heap → R)) (mode : FuncId → Nat) : (slimPrg Tryd.prog own mode).code 46 = some c46 := by kernel_rfl
-- thunk/thunkref5.Arity
def c47_l0 : SCode :=
  (SCode.seq (SCode.seq (SCode.ops [SOper.mk (some 6) none (SOp.p (POp.move (SX.tmp 4))), SOper.mk (some 7) none (SOp.p (POp.move (SX.tmp 3))), SOper.mk (some 8) none (SOp.p (POp.lenS (SX.tmp 7))), SOper.mk (some 9) none (SOp.p (POp.bin BinOp.lss EqT.none (SX.tmp 6) (SX.tmp 8)))])
  (SCode.cond (SX.tmp 9)
  SCode.skip
  (SCode.exit 0)))
  (SCode.seq (SCode.block 1 (SCode.seq (SCode.ops [SOper.mk (some 12) none (SOp.p (POp.move (SX.tmp 3))), SOper.mk (some 13) none (SOp.p (POp.move (SX.tmp 4))), SOper.mk (some 14) none (SOp.p (POp.iaddr 1 (SX.tmp 12) (SX.tmp 13))), SOper.mk (some 15) none (SOp.p (POp.load1 (SX.tmp 14))), SOper.mk (some 16) none (SOp.p (POp.move (SX.tmp 0))), SOper.mk (some 17) none (SOp.p (POp.bin BinOp.eql EqT.none (SX.tmp 15) (SX.tmp 16)))])
  (SCode.cond (SX.tmp 17)
  (SCode.seq (SCode.seq (SCode.ops [SOper.mk (some 18) none (SOp.p (POp.move (SX.tmp 4))), SOper.mk (some 19) none (SOp.p (POp.bin BinOp.lss EqT.none (SX.tmp 18) (SX.lit (AV.int IntKind.i64 10))))])
  (SCode.cond (SX.tmp 19)
  (SCode.seq (SCode.ops [SOper.mk (some 2) none (SOp.p (POp.move (SX.lit (AV.int IntKind.i64 2))))])
  SCode.ret)
  SCode.skip))
  (SCode.seq (SCode.ops [SOper.mk (some 2) none (SOp.p (POp.move (SX.lit (AV.int IntKind.i64 1))))])
  SCode.ret))
  SCode.skip)))
  (SCode.ops [SOper.mk (some 10) none (SOp.p (POp.move (SX.tmp 4))), SOper.mk (some 11) none (SOp.p (POp.bin BinOp.add EqT.none (SX.tmp 10) (SX.lit (AV.int IntKind.i64 1)))), SOper.mk (some 4) none (SOp.p (POp.move (SX.tmp 11)))])))
def c47 : SFunc := ⟨20, (SCode.seq (SCode.ops [SOper.mk (some 2) none (SOp.p (POp.move (SX.lit (AV.int IntKind.i64 0))))])
  (SCode.seq (SCode.ops [SOper.mk (some 5) none (SOp.a (AOp.buildS [AV.str [], AV.str [], AV.str [], AV.str [], AV.str [], AV.str [], AV.str [], AV.str [], AV.str [], AV.str [], AV.str [], AV.str [], AV.str [], AV.str [], AV.str [], AV.str [], AV.str [], AV.str []] 18 [(0, 1, SX.lit (AV.str [43])), (1, 1, SX.lit (AV.str [45])), (2, 1, SX.lit (AV.str [42])), (3, 1, SX.lit (AV.str [113, 117, 111, 116, 105, 101, 110, 116])), (4, 1, SX.lit (AV.str [114, 101, 109, 97, 105, 110, 100, 101, 114])), (5, 1, SX.lit (AV.str [60])), (6, 1, SX.lit (AV.str [61])), (7, 1, SX.lit (AV.str [101, 113, 63])), (8, 1, SX.lit (AV.str [99, 111, 110, 115])), (9, 1, SX.lit (AV.str [115, 101, 113])), (10, 1, SX.lit (AV.str [99, 97, 114])), (11, 1, SX.lit (AV.str [99, 100, 114])), (12, 1, SX.lit (AV.str [110, 117, 108, 108, 63])), (13, 1, SX.lit (AV.str [112, 97, 105, 114, 63])), (14, 1, SX.lit (AV.str [110, 111, 116])), (15, 1, SX.lit (AV.str [105, 110, 116, 101, 103, 101, 114, 63])), (16, 1, SX.lit (AV.str [115, 121, 109, 98, 111, 108, 63])), (17, 1, SX.lit (AV.str [101, 114, 114, 111, 114]))])), SOper.mk (some 3) none (SOp.p (POp.move (SX.tmp 5)))])
  (SCode.seq (SCode.seq (SCode.ops [SOper.mk (some 4) none (SOp.p (POp.move (SX.lit (AV.int IntKind.i64 0))))])
  (SCode.block 0 (SCode.loop c47_l0)))
  (SCode.seq (SCode.ops [SOper.mk (some 2) none (SOp.p (POp.move (SX.lit (AV.int IntKind.i64 0))))])
  SCode.ret)))), [ResV.tmp 2]⟩
theorem code47 (own : FuncId → Option (List AV → Heap → R)) (mode : FuncId → Nat) : (slimPrg Tryd.prog own mode).code 47 = some c47 := by kernel_rfl
-- thunk/thunklaw5.digits
def c48 : SFunc := ⟨17, (SCode.seq (SCode.ops [SOper.mk (some 2) none (SOp.p (POp.move (SX.lit (AV.str []))))])
  (SCode.seq (SCode.seq (SCode.ops [SOper.mk (some 3) none (SOp.p (POp.move (SX.tmp 0))), SOper.mk (some 4) none (SOp.p (POp.bin BinOp.geq EqT.none (SX.tmp 3) (SX.lit (AV.int IntKind.i64 10))))])
  (SCode.cond (SX.tmp 4)
  (SCode.seq (SCode.ops [SOper.mk (some 5) none (SOp.p (POp.move (SX.tmp 0))), SOper.mk (some 6) none (SOp.p (POp.bin BinOp.quo EqT.none (SX.tmp 5) (SX.lit (AV.int IntKind.i64 10)))), SOper.mk (some 7) none (SOp.call (SX.lit (AV.func 48 [])) [SX.tmp 6]), SOper.mk (some 8) none (SOp.p (POp.move (SX.tmp 0))), SOper.mk (some 9) none (SOp.p (POp.bin BinOp.rem EqT.none (SX.tmp 8) (SX.lit (AV.int IntKind.i64 10)))), SOper.mk (some 10) none (SOp.call (SX.lit (AV.func 48 [])) [SX.tmp 9]), SOper.mk (some 11) none (SOp.p (POp.bin BinOp.add EqT.none (SX.tmp 7) (SX.tmp 10))), SOper.mk (some 2) none (SOp.p (POp.move (SX.tmp 11)))])
  SCode.ret)
  SCode.skip))
  (SCode.seq (SCode.ops [SOper.mk (some 12) none (SOp.p (POp.move (SX.tmp 0))), SOper.mk (some 13) none (SOp.p (POp.bin BinOp.add EqT.none (SX.lit (AV.int IntKind.i64 48)) (SX.tmp 12))), SOper.mk (some 14) none (SOp.p (POp.toInt IntKind.u8 (SX.tmp 13))), SOper.mk (some 15) none (SOp.a (AOp.buildS [AV.int IntKind.u8 0] 1 [(0, 1, SX.tmp 14)])), SOper.mk (some 16) none (SOp.p (POp.bytesStr (SX.tmp 15))), SOper.mk (some 2) none (SOp.p (POp.move (SX.tmp 16)))])
  SCode.ret))), [ResV.tmp 2]⟩
theorem code48 (own : FuncId → Option (List AV → Heap → R)) (mode : FuncId → Nat) : (slimPrg Tryd.prog own mode).code 48 = some c48 := by kernel_rfl
-- slices.Clone[[]string,string]
def c49 : SFunc := ⟨8, (SCode.seq (SCode.ops [SOper.mk (some 2) none (SOp.p (POp.move (SX.lit AV.nils)))])
  (SCode.seq (SCode.seq (SCode.ops [SOper.mk (some 3) none (SOp.p (POp.move (SX.tmp 0))), SOper.mk (some 4) none (SOp.p (POp.bin BinOp.eql EqT.slc (SX.tmp 3) (SX.lit AV.nils)))])
  (SCode.cond (SX.tmp 4)
  (SCode.seq (SCode.ops [SOper.mk (some 2) none (SOp.p (POp.move (SX.lit AV.nils)))])
  SCode.ret)
  SCode.skip))
  (SCode.seq (SCode.ops [SOper.mk (some 5) none (SOp.a (AOp.buildS [] 0 [])), SOper.mk (some 6) none (SOp.p (POp.move (SX.tmp 0))), SOper.mk (some 7) none (SOp.w (WOp.append 9 1 16 (SX.tmp 5) (SX.tmp 6))), SOper.mk (some 2) none (SOp.p (POp.move (SX.tmp 7)))])
  SCode.ret))), [ResV.tmp 2]⟩
theorem code49 (own : FuncId → Option (List AV → Heap → R)) (mode : FuncId → Nat) : (slimPrg Tryd.prog own mode).code 49 = some c49 := by kernel_rfl
-- (*thunk/norm.count).name
def c50 : SFunc := ⟨16, (SCode.seq (SCode.ops [SOper.mk (some 2) none (SOp.p (POp.move (SX.lit (AV.str []))))])
  (SCode.seq (SCode.ops [SOper.mk (some 3) none (SOp.p (POp.move (SX.tmp 0))), SOper.mk (some 4) none (SOp.p (POp.nilchk (SX.tmp 3))), SOper.mk (some 5) none (SOp.p (POp.faddr 0 (SX.tmp 4))), SOper.mk (some 6) none (SOp.p (POp.load1 (SX.tmp 5))), SOper.mk (some 7) none (SOp.p (POp.bin BinOp.add EqT.none (SX.tmp 6) (SX.lit (AV.int IntKind.i64 1)))), SOper.mk (some 8) none (SOp.p (POp.nilchk (SX.tmp 3))), SOper.mk (some 9) none (SOp.p (POp.faddr 0 (SX.tmp 8))), SOper.mk none none (SOp.w (WOp.store 1 (SX.tmp 9) (SX.tmp 7)))])
  (SCode.seq (SCode.ops [SOper.mk (some 10) none (SOp.p (POp.move (SX.tmp 0))), SOper.mk (some 11) none (SOp.p (POp.nilchk (SX.tmp 10))), SOper.mk (some 12) none (SOp.p (POp.faddr 0 (SX.tmp 11))), SOper.mk (some 13) none (SOp.p (POp.load1 (SX.tmp 12))), SOper.mk (some 14) none (SOp.call (SX.lit (AV.func 54 [])) [SX.tmp 13]), SOper.mk (some 15) none (SOp.p (POp.bin BinOp.add EqT.none (SX.lit (AV.str [37, 46])) (SX.tmp 14))), SOper.mk (some 2) none (SOp.p (POp.move (SX.tmp 15)))])
  SCode.ret))), [ResV.tmp 2]⟩
theorem code50 (own : FuncId → Option (List AV → Heap → R)) (mode : FuncId → Nat) : (slimPrg Tryd.prog own mode).code 50 = some c50 := by kernel_rfl
-- slices.Clone[[]thunk/api.Expr,thunk/api.Expr]
def c51 : SFunc := ⟨8, (SCode.seq (SCode.ops [SOper.mk (some 2) none (SOp.p (POp.move (SX.lit AV.nils)))])
  (SCode.seq (SCode.seq (SCode.ops [SOper.mk (some 3) none (SOp.p (POp.move (SX.tmp 0))), SOper.mk (some 4) none (SOp.p (POp.bin BinOp.eql EqT.slc (SX.tmp 3) (SX.lit AV.nils)))])
  (SCode.cond (SX.tmp 4)
  (SCode.seq (SCode.ops [SOper.mk (some 2) none (SOp.p (POp.move (SX.lit AV.nils)))])
  SCode.ret)
  SCode.skip))
  (SCode.seq (SCode.ops [SOper.mk (some 5) none (SOp.a (AOp.buildS [] 0 [])), SOper.mk (some 6) none (SOp.p (POp.move (SX.tmp 0))), SOper.mk (some 7) none (SOp.w (WOp.append 28 4 72 (SX.tmp 5) (SX.tmp 6))), SOper.mk (some 2) none (SOp.p (POp.move (SX.tmp 7)))])
  SCode.ret))), [ResV.tmp 2]⟩
theorem code51 (own : FuncId → Option (List AV → Heap → R)) (mode : FuncId → Nat) : (slimPrg Tryd.prog own mode).code 51 = some c51 := by kernel_rfl
-- (*thunk/thunkref7.Namer).Next
def c52 : SFunc := ⟨20, (SCode.seq (SCode.ops [SOper.mk (some 2) none (SOp.p (POp.move (SX.lit (AV.str []))))])
  (SCode.seq (SCode.ops [SOper.mk (some 3) none (SOp.p (POp.move (SX.tmp 0))), SOper.mk (some 4) none (SOp.p (POp.nilchk (SX.tmp 3))), SOper.mk (some 5) none (SOp.p (POp.faddr 1 (SX.tmp 4))), SOper.mk (some 6) none (SOp.p (POp.load1 (SX.tmp 5))), SOper.mk (some 7) none (SOp.p (POp.bin BinOp.add EqT.none (SX.tmp 6) (SX.lit (AV.int IntKind.i64 1)))), SOper.mk (some 8) none (SOp.p (POp.nilchk (SX.tmp 3))), SOper.mk (some 9) none (SOp.p (POp.faddr 1 (SX.tmp 8))), SOper.mk none none (SOp.w (WOp.store 1 (SX.tmp 9) (SX.tmp 7)))])
  (SCode.seq (SCode.draw [SOper.mk (some 10) none (SOp.p (POp.move (SX.tmp 0))), SOper.mk (some 11) none (SOp.p (POp.nilchk (SX.tmp 10))), SOper.mk (some 12) none (SOp.p (POp.faddr 0 (SX.tmp 11))), SOper.mk (some 13) none (SOp.p (POp.load1 (SX.tmp 12))), SOper.mk (some 14) none (SOp.p (POp.move (SX.tmp 0))), SOper.mk (some 15) none (SOp.p (POp.nilchk (SX.tmp 14))), SOper.mk (some 16) none (SOp.p (POp.faddr 1 (SX.tmp 15))), SOper.mk (some 17) none (SOp.p (POp.load1 (SX.tmp 16)))] [(SOper.mk (some 18) none (SOp.call (SX.lit (AV.func 55 [])) [SX.tmp 17]), [SOper.mk (some 13) none (SOp.p (POp.load1 (SX.tmp 12)))], [SOper.mk (some 19) none (SOp.p (POp.bin BinOp.add EqT.none (SX.tmp 13) (SX.tmp 18))), SOper.mk (some 2) none (SOp.p (POp.move (SX.tmp 19)))])])
  SCode.ret))), [ResV.tmp 2]⟩
theorem code52 (own : FuncId → Option (List AV → Heap → R)) (mode : FuncId → Nat) : (slimPrg Tryd.prog own mode).code 52 = some c52 := by kernel_rfl
-- thunk/thunkref1.Right
def c53_l0 : SCode :=
  (SCode.seq (SCode.seq (SCode.ops [SOper.mk (some 34) none (SOp.p (POp.move (SX.tmp 4))), SOper.mk (some 35) none (SOp.p (POp.move (SX.tmp 3))), SOper.mk (some 36) none (SOp.p (POp.lenT (SX.tmp 35))), SOper.mk (some 37) none (SOp.p (POp.bin BinOp.lss EqT.none (SX.tmp 34) (SX.tmp 36)))])
  (SCode.cond (SX.tmp 37)
  SCode.skip
  (SCode.exit 0)))
  (SCode.seq (SCode.block 1 (SCode.seq (SCode.ops [SOper.mk (some 40) none (SOp.p (POp.move (SX.tmp 3))), SOper.mk (some 41) none (SOp.p (POp.move (SX.tmp 4))), SOper.mk (some 42) none (SOp.p (POp.indexT (SX.tmp 40) (SX.tmp 41))), SOper.mk (some 43) none (SOp.p (POp.bin BinOp.lss EqT.none (SX.tmp 42) (SX.lit (AV.int IntKind.u8 48)))), SOper.mk (some 44) none (SOp.p (POp.move (SX.tmp 43))), SOper.mk (some 45) (some (44, false)) (SOp.p (POp.move (SX.tmp 3))), SOper.mk (some 46) (some (44, false)) (SOp.p (POp.move (SX.tmp 4))), SOper.mk (some 47) (some (44, false)) (SOp.p (POp.indexT (SX.tmp 45) (SX.tmp 46))), SOper.mk (some 48) (some (44, false)) (SOp.p (POp.bin BinOp.gtr EqT.none (SX.tmp 47) (SX.lit (AV.int IntKind.u8 57)))), SOper.mk (some 49) none (SOp.p (POp.pick (SX.tmp 44) (SX.lit (AV.bool true)) (SX.tmp 48)))])
  (SCode.cond (SX.tmp 49)
  (SCode.seq (SCode.ops [SOper.mk (some 2) none (SOp.p (POp.move (SX.lit (AV.bool false))))])
  SCode.ret)
  SCode.skip)))
  (SCode.ops [SOper.mk (some 38) none (SOp.p (POp.move (SX.tmp 4))), SOper.mk (some 39) none (SOp.p (POp.bin BinOp.add EqT.none (SX.tmp 38) (SX.lit (AV.int IntKind.i64 1)))), SOper.mk (some 4) none (SOp.p (POp.move (SX.tmp 39)))])))
def c53 : SFunc := ⟨50, (SCode.seq (SCode.ops [SOper.mk (some 2) none (SOp.p (POp.move (SX.lit (AV.bool false))))])
  (SCode.seq (SCode.ops [SOper.mk (some 5) none (SOp.p (POp.move (SX.tmp 0))), SOper.mk (some 3) none (SOp.p (POp.move (SX.tmp 5)))])
  (SCode.seq (SCode.seq (SCode.ops [SOper.mk (some 6) none (SOp.p (POp.move (SX.tmp 3))), SOper.mk (some 7) none (SOp.p (POp.lenT (SX.tmp 6))), SOper.mk (some 8) none (SOp.p (POp.bin BinOp.gtr EqT.none (SX.tmp 7) (SX.lit (AV.int IntKind.i64 0)))), SOper.mk (some 9) none (SOp.p (POp.move (SX.tmp 8))), SOper.mk (some 10) (some (9, true)) (SOp.p (POp.move (SX.tmp 3))), SOper.mk (some 11) (some (9, true)) (SOp.p (POp.indexT (SX.tmp 10) (SX.lit (AV.int IntKind.i64 0)))), SOper.mk (some 12) (some (9, true)) (SOp.p (POp.bin BinOp.eql EqT.none (SX.tmp 11) (SX.lit (AV.int IntKind.u8 45)))), SOper.mk (some 13) none (SOp.p (POp.pick (SX.tmp 9) (SX.tmp 12) (SX.lit (AV.bool false))))])
  (SCode.cond (SX.tmp 13)
  (SCode.ops [SOper.mk (some 14) none (SOp.p (POp.move (SX.tmp 3))), SOper.mk (some 15) none (SOp.p (POp.sliceT (SX.tmp 14) (some (SX.lit (AV.int IntKind.i64 1))) none)), SOper.mk (some 3) none (SOp.p (POp.move (SX.tmp 15)))])
  SCode.skip))
  (SCode.seq (SCode.seq (SCode.ops [SOper.mk (some 16) none (SOp.p (POp.move (SX.tmp 3))), SOper.mk (some 17) none (SOp.p (POp.lenT (SX.tmp 16))), SOper.mk (some 18) none (SOp.p (POp.bin BinOp.eql EqT.none (SX.tmp 17) (SX.lit (AV.int IntKind.i64 0)))), SOper.mk (some 19) none (SOp.p (POp.move (SX.tmp 18))), SOper.mk (some 20) (some (19, false)) (SOp.p (POp.move (SX.tmp 3))), SOper.mk (some 21) (some (19, false)) (SOp.p (POp.lenT (SX.tmp 20))), SOper.mk (some 22) (some (19, false)) (SOp.p (POp.bin BinOp.gtr EqT.none (SX.tmp 21) (SX.lit (AV.int IntKind.i64 200)))), SOper.mk (some 23) none (SOp.p (POp.pick (SX.tmp 19) (SX.lit (AV.bool true)) (SX.tmp 22))), SOper.mk (some 24) none (SOp.p (POp.move (SX.tmp 23))), SOper.mk (some 25) (some (24, false)) (SOp.p (POp.move (SX.tmp 3))), SOper.mk (some 26) (some (24, false)) (SOp.p (POp.indexT (SX.tmp 25) (SX.lit (AV.int IntKind.i64 0)))), SOper.mk (some 27) (some (24, false)) (SOp.p (POp.bin BinOp.eql EqT.none (SX.tmp 26) (SX.lit (AV.int IntKind.u8 48)))), SOper.mk (some 28) (some (24, false)) (SOp.p (POp.move (SX.tmp 27))), SOper.mk (some 29) (some (28, true)) (SOp.p (POp.move (SX.tmp 0))), SOper.mk (some 30) (some (28, true)) (SOp.p (POp.lenT (SX.tmp 29))), SOper.mk (some 31) (some (28, true)) (SOp.p (POp.bin BinOp.gtr EqT.none (SX.tmp 30) (SX.lit (AV.int IntKind.i64 1)))), SOper.mk (some 32) (some (24, false)) (SOp.p (POp.pick (SX.tmp 28) (SX.tmp 31) (SX.lit (AV.bool false)))), SOper.mk (some 33) none (SOp.p (POp.pick (SX.tmp 24) (SX.lit (AV.bool true)) (SX.tmp 32)))])
  (SCode.cond (SX.tmp 33)
  (SCode.seq (SCode.ops [SOper.mk (some 2) none (SOp.p (POp.move (SX.lit (AV.bool false))))])
  SCode.ret)
  SCode.skip))
  (SCode.seq (SCode.seq (SCode.ops [SOper.mk (some 4) none (SOp.p (POp.move (SX.lit (AV.int IntKind.i64 0))))])
  (SCode.block 0 (SCode.loop c53_l0)))
  (SCode.seq (SCode.ops [SOper.mk (some 2) none (SOp.p (POp.move (SX.lit (AV.bool true))))])
  SCode.ret)))))), [ResV.tmp 2]⟩
theorem code53 (own : FuncId → Option (List AV → Heap → R)) (mode : FuncId → Nat) : (slimPrg Tryd.prog own mode).code 53 = some c53 := by kernel_rfl
-- strconv.Itoa
def c54 : SFunc := ⟨5, (SCode.seq (SCode.ops [SOper.mk (some 2) none (SOp.p (POp.move (SX.lit (AV.str []))))])
  (SCode.seq (SCode.ops [SOper.mk (some 3) none (SOp.p (POp.move (SX.tmp 0))), SOper.mk (some 4) none (SOp.call (SX.lit (AV.func 56 [])) [SX.tmp 3]), SOper.mk (some 2) none (SOp.p (POp.move (SX.tmp 4)))])
  SCode.ret)), [ResV.tmp 2]⟩
theorem code54 (own : FuncId → Option (List AV → Heap → R)) (mode : FuncId → Nat) : (slimPrg Tryd.prog own mode).code 54 = some c54 := by kernel_rfl
-- thunk/thunkref7.digits
def c55 : SFunc := ⟨17, (SCode.seq (SCode.ops [SOper.mk (some 2) none (SOp.p (POp.move (SX.lit (AV.str []))))])
  (SCode.seq (SCode.seq (SCode.ops [SOper.mk (some 3) none (SOp.p (POp.move (SX.tmp 0))), SOper.mk (some 4) none (SOp.p (POp.bin BinOp.geq EqT.none (SX.tmp 3) (SX.lit (AV.int IntKind.i64 10))))])
  (SCode.cond (SX.tmp 4)
  (SCode.seq (SCode.ops [SOper.mk (some 5) none (SOp.p (POp.move (SX.tmp 0))), SOper.mk (some 6) none (SOp.p (POp.bin BinOp.quo EqT.none (SX.tmp 5) (SX.lit (AV.int IntKind.i64 10)))), SOper.mk (some 7) none (SOp.call (SX.lit (AV.func 55 [])) [SX.tmp 6]), SOper.mk (some 8) none (SOp.p (POp.move (SX.tmp 0))), SOper.mk (some 9) none (SOp.p (POp.bin BinOp.rem EqT.none (SX.tmp 8) (SX.lit (AV.int IntKind.i64 10)))), SOper.mk (some 10) none (SOp.call (SX.lit (AV.func 55 [])) [SX.tmp 9]), SOper.mk (some 11) none (SOp.p (POp.bin BinOp.add EqT.none (SX.tmp 7) (SX.tmp 10))), SOper.mk (some 2) none (SOp.p (POp.move (SX.tmp 11)))])
  SCode.ret)
  SCode.skip))
  (SCode.seq (SCode.ops [SOper.mk (some 12) none (SOp.p (POp.move (SX.tmp 0))), SOper.mk (some 13) none (SOp.p (POp.bin BinOp.add EqT.none (SX.lit (AV.int IntKind.i64 48)) (SX.tmp 12))), SOper.mk (some 14) none (SOp.p (POp.toInt IntKind.u8 (SX.tmp 13))), SOper.mk (some 15) none (SOp.a (AOp.buildS [AV.int IntKind.u8 0] 1 [(0, 1, SX.tmp 14)])), SOper.mk (some 16) none (SOp.p (POp.bytesStr (SX.tmp 15))), SOper.mk (some 2) none (SOp.p (POp.move (SX.tmp 16)))])
  SCode.ret))), [ResV.tmp 2]⟩
theorem code55 (own : FuncId → Option (List AV → Heap → R)) (mode : FuncId → Nat) : (slimPrg Tryd.prog own mode).code 55 = some c55 := by kernel_rfl
-- internal/strconv.Itoa
def c56 : SFunc := ⟨5, (SCode.seq (SCode.ops [SOper.mk (some 2) none (SOp.p (POp.move (SX.lit (AV.str []))))])
  (SCode.seq (SCode.ops [SOper.mk (some 3) none (SOp.p (POp.move (SX.tmp 0))), SOper.mk (some 4) none (SOp.call (SX.lit (AV.func 57 [])) [SX.tmp 3, SX.lit (AV.int IntKind.i64 10)]), SOper.mk (some 2) none (SOp.p (POp.move (SX.tmp 4)))])
  SCode.ret)), [ResV.tmp 2]⟩
theorem code56 (own : FuncId → Option (List AV → Heap → R)) (mode : FuncId → Nat) : (slimPrg Tryd.prog own mode).code 56 = some c56 := by kernel_rfl
-- internal/strconv.FormatInt
def c57 : SFunc := ⟨54, (SCode.seq (SCode.ops [SOper.mk (some 4) none (SOp.p (POp.move (SX.lit (AV.str []))))])
  (SCode.seq (SCode.seq (SCode.ops [SOper.mk (some 10) none (SOp.p (POp.move (SX.tmp 1))), SOper.mk (some 11) none (SOp.p (POp.bin BinOp.eql EqT.none (SX.tmp 10) (SX.lit (AV.int IntKind.i64 10))))])
  (SCode.cond (SX.tmp 11)
  (SCode.seq (SCode.seq (SCode.ops [SOper.mk (some 12) none (SOp.p (POp.move (SX.tmp 0))), SOper.mk (some 13) none (SOp.p (POp.bin BinOp.leq EqT.none (SX.lit (AV.int IntKind.i64 0)) (SX.tmp 12))), SOper.mk (some 14) none (SOp.p (POp.move (SX.tmp 13))), SOper.mk (some 15) (some (14, true)) (SOp.p (POp.move (SX.tmp 0))), SOper.mk (some 16) (some (14, true)) (SOp.p (POp.bin BinOp.lss EqT.none (SX.tmp 15) (SX.lit (AV.int IntKind.i64 100)))), SOper.mk (some 17) none (SOp.p (POp.pick (SX.tmp 14) (SX.tmp 16) (SX.lit (AV.bool false))))])
  (SCode.cond (SX.tmp 17)
  (SCode.seq (SCode.ops [SOper.mk (some 18) none (SOp.p (POp.move (SX.tmp 0))), SOper.mk (some 19) none (SOp.call (SX.lit (AV.func 58 [])) [SX.tmp 18]), SOper.mk (some 4) none (SOp.p (POp.move (SX.tmp 19)))])
  SCode.ret)
  SCode.skip))
  (SCode.seq (SCode.ops [SOper.mk (some 5) none (SOp.a (AOp.newc 76 [AV.int IntKind.u8 0, AV.int IntKind.u8 0, AV.int IntKind.u8 0, AV.int IntKind.u8 0, AV.int IntKind.u8 0, AV.int IntKind.u8 0, AV.int IntKind.u8 0, AV.int IntKind.u8 0, AV.int IntKind.u8 0, AV.int IntKind.u8 0, AV.int IntKind.u8 0, AV.int IntKind.u8 0, AV.int IntKind.u8 0, AV.int IntKind.u8 0, AV.int IntKind.u8 0, AV.int IntKind.u8 0, AV.int IntKind.u8 0, AV.int IntKind.u8 0, AV.int IntKind.u8 0, AV.int IntKind.u8 0, AV.int IntKind.u8 0, AV.int IntKind.u8 0, AV.int IntKind.u8 0, AV.int IntKind.u8 0]))])
  (SCode.seq (SCode.ops [SOper.mk (some 20) none (SOp.p (POp.move (SX.tmp 0))), SOper.mk (some 21) none (SOp.p (POp.toInt IntKind.u64 (SX.tmp 20))), SOper.mk (some 6) none (SOp.p (POp.move (SX.tmp 21)))])
  (SCode.seq (SCode.seq (SCode.ops [SOper.mk (some 22) none (SOp.p (POp.move (SX.tmp 0))), SOper.mk (some 23) none (SOp.p (POp.bin BinOp.lss EqT.none (SX.tmp 22) (SX.lit (AV.int IntKind.i64 0))))])
  (SCode.cond (SX.tmp 23)
  (SCode.ops [SOper.mk (some 24) none (SOp.p (POp.move (SX.tmp 6))), SOper.mk (some 25) none (SOp.p (POp.neg (SX.tmp 24))), SOper.mk (some 6) none (SOp.p (POp.move (SX.tmp 25)))])
  SCode.skip))
  (SCode.seq (SCode.ops [SOper.mk (some 26) none (SOp.p (POp.move (SX.tmp 6))), SOper.mk (some 27) none (SOp.call (SX.lit (AV.func 59 [])) [SX.tmp 26]), SOper.mk (some 7) none (SOp.p (POp.move (SX.tmp 27)))])
  (SCode.seq (SCode.ops [SOper.mk none none (SOp.p (POp.nilchk (SX.lit AV.undef)))])
  (SCode.seq (SCode.seq (SCode.ops [SOper.mk (some 33) none (SOp.p (POp.move (SX.tmp 0))), SOper.mk (some 34) none (SOp.p (POp.bin BinOp.lss EqT.none (SX.tmp 33) (SX.lit (AV.int IntKind.i64 0))))])
  (SCode.cond (SX.tmp 34)
  (SCode.seq (SCode.ops [SOper.mk (some 35) none (SOp.p (POp.iaddrA 24 1 (SX.tmp 5) (SX.lit (AV.int IntKind.i64 0)))), SOper.mk none none (SOp.w (WOp.store 1 (SX.tmp 35) (SX.lit (AV.int IntKind.u8 45))))])
  (SCode.seq (SCode.ops [SOper.mk none none (SOp.p (POp.nilchk (SX.lit AV.undef)))])
  SCode.ret))
  SCode.skip))
  (SCode.seq (SCode.ops [SOper.mk none none (SOp.p (POp.nilchk (SX.lit AV.undef)))])
  SCode.ret))))))))
  SCode.skip))
  (SCode.seq (SCode.ops [SOper.mk (some 45) none (SOp.p (POp.move (SX.tmp 0))), SOper.mk (some 46) none (SOp.p (POp.toInt IntKind.u64 (SX.tmp 45))), SOper.mk (some 47) none (SOp.p (POp.move (SX.tmp 1))), SOper.mk (some 48) none (SOp.p (POp.move (SX.tmp 0))), SOper.mk (some 49) none (SOp.p (POp.bin BinOp.lss EqT.none (SX.tmp 48) (SX.lit (AV.int IntKind.i64 0)))), SOper.mk (some 50) none (SOp.call (SX.lit (AV.func 61 [])) [SX.lit AV.nils, SX.tmp 46, SX.tmp 47, SX.tmp 49, SX.lit (AV.bool false)]), SOper.mk (some 44) none (SOp.p (POp.move (SX.tmp 50))), SOper.mk (some 51) none (SOp.p (POp.extract (SX.tmp 44) 0)), SOper.mk (some 52) none (SOp.p (POp.extract (SX.tmp 44) 1)), SOper.mk (some 8) none (SOp.p (POp.move (SX.tmp 51))), SOper.mk (some 9) none (SOp.p (POp.move (SX.tmp 52)))])
  (SCode.seq (SCode.ops [SOper.mk (some 53) none (SOp.p (POp.move (SX.tmp 9))), SOper.mk (some 4) none (SOp.p (POp.move (SX.tmp 53)))])
  SCode.ret)))), [ResV.tmp 4]⟩
theorem code57 (own : FuncId → Option (List AV → Heap → R)) (mode : FuncId → Nat) : (slimPrg Tryd.prog own mode).code 57 = some c57 := by kernel_rfl
-- internal/strconv.small
def c58 : SFunc := ⟨15, (SCode.seq (SCode.ops [SOper.mk (some 2) none (SOp.p (POp.move (SX.lit (AV.str []))))])
  (SCode.seq (SCode.seq (SCode.ops [SOper.mk (some 3) none (SOp.p (POp.move (SX.tmp 0))), SOper.mk (some 4) none (SOp.p (POp.bin BinOp.lss EqT.none (SX.tmp 3) (SX.lit (AV.int IntKind.i64 10))))])
  (SCode.cond (SX.tmp 4)
  (SCode.seq (SCode.ops [SOper.mk (some 5) none (SOp.p (POp.move (SX.tmp 0))), SOper.mk (some 6) none (SOp.p (POp.move (SX.tmp 0))), SOper.mk (some 7) none (SOp.p (POp.bin BinOp.add EqT.none (SX.tmp 6) (SX.lit (AV.int IntKind.i64 1)))), SOper.mk (some 8) none (SOp.p (POp.sliceT (SX.lit (AV.str [48, 49, 50, 51, 52, 53, 54, 55, 56, 57, 97, 98, 99, 100, 101, 102, 103, 104, 105, 106, 107, 108, 109, 110, 111, 112, 113, 114, 115, 116, 117, 118, 119, 120, 121, 122])) (some (SX.tmp 5)) (some (SX.tmp 7)))), SOper.mk (some 2) none (SOp.p (POp.move (SX.tmp 8)))])
  SCode.ret)
  SCode.skip))
  (SCode.seq (SCode.ops [SOper.mk (some 9) none (SOp.p (POp.move (SX.tmp 0))), SOper.mk (some 10) none (SOp.p (POp.bin BinOp.mul EqT.none (SX.tmp 9) (SX.lit (AV.int IntKind.i64 2)))), SOper.mk (some 11) none (SOp.p (POp.move (SX.tmp 0))), SOper.mk (some 12) none (SOp.p (POp.bin BinOp.mul EqT.none (SX.tmp 11) (SX.lit (AV.int IntKind.i64 2)))), SOper.mk (some 13) none (SOp.p (POp.bin BinOp.add EqT.none (SX.tmp 12) (SX.lit (AV.int IntKind.i64 2)))), SOper.mk (some 14) none (SOp.p (POp.sliceT (SX.lit (AV.str [48, 48, 48, 49, 48, 50, 48, 51, 48, 52, 48, 53, 48, 54, 48, 55, 48, 56, 48, 57, 49, 48, 49, 49, 49, 50, 49, 51, 49, 52, 49, 53, 49, 54, 49, 55, 49, 56, 49, 57, 50, 48, 50, 49, 50, 50, 50, 51, 50, 52, 50, 53, 50, 54, 50, 55, 50, 56, 50, 57, 51, 48, 51, 49, 51, 50, 51, 51, 51, 52, 51, 53, 51, 54, 51, 55, 51, 56, 51, 57, 52, 48, 52, 49, 52, 50, 52, 51, 52, 52, 52, 53, 52, 54, 52, 55, 52, 56, 52, 57, 53, 48, 53, 49, 53, 50, 53, 51, 53, 52, 53, 53, 53, 54, 53, 55, 53, 56, 53, 57, 54, 48, 54, 49, 54, 50, 54, 51, 54, 52, 54, 53, 54, 54, 54, 55, 54, 56, 54, 57, 55, 48, 55, 49, 55, 50, 55, 51, 55, 52, 55, 53, 55, 54, 55, 55, 55, 56, 55, 57, 56, 48, 56, 49, 56, 50, 56, 51, 56, 52, 56, 53, 56, 54, 56, 55, 56, 56, 56, 57, 57, 48, 57, 49, 57, 50, 57, 51, 57, 52, 57, 53, 57, 54, 57, 55, 57, 56, 57, 57])) (some (SX.tmp 10)) (some (SX.tmp 13)))), SOper.mk (some 2) none (SOp.p (POp.move (SX.tmp 14)))])
  SCode.ret))), [ResV.tmp 2]⟩
theorem code58 (own : FuncId → Option (List AV → Heap → R)) (mode : FuncId → Nat) : (slimPrg Tryd.prog own mode).code 58 = some c58 := by kernel_rfl

end Go.Lite
