/-
  Several texts in one: BData, BStr, BRight, BNum, BLimb, BLoad, BText, BSum, BKnown, BRows, BLaid.
-/
import Derived.Test.YtpnbhbacpkoddaaDoorQbA
import Derived.Test.YtpnbhbacpkoddaaDoorQbB
import Derived.Test.YtpnbhbacpkoddaaDoorQc
import Derived.Test.YtpnbhbacpkoddaaDoorRows
import Derived.LaidLaws
import Derived.LaidSub
import Derived.Handed

/-
  Lists of numbers as the interpreter's values; seat r3's program as the interpreter takes it.
-/
namespace Go.Lite
open Go Go.Proofs
set_option maxRecDepth 100000
set_option linter.unusedSimpArgs false
set_option linter.unusedVariables false

/-- a natural number as cells -/
def nat1 (n : Nat) : List AV := [.int .i64 (n : Int)]
theorem nat1_len (n : Nat) : (nat1 n).length = 1 := rfl
theorem nat1_still (n : Nat) : Still (nat1 n) := Still.int _ _
theorem nat1_flat (n : Nat) : (nat1 n).all AV.flat = true := rfl

/-- numbers, told by content (f: whether an empty one is all that its row has) -/
def vN (f : Bool) (l : List Nat) : AV := vList f 1 nat1 l
theorem vN_nil {f : Bool} : vN f [] = .lst 0 0 f [] := rfl
theorem len_vN {f : Bool} {l : List Nat} : lenM (vN f l) = some (.int .i64 l.length) := len_vList
theorem shutC_vN {f : Bool} {d : Nat} {l : List Nat} {H : Heap} : shutC d (vN f l) H = some (vN f l, H) := shutC_vList
theorem shutV_vN {f : Bool} {l : List Nat} {H : Heap} : shutV (vN f l) H = some (vN f l, H) := shutV_vList
theorem shutA_vN {f : Bool} {l : List Nat} {H : Heap} : shutA (vN f l) H = some (vN f l, H) := shutA_vList
theorem softV_vN {f : Bool} {l : List Nat} {H : Heap} : softV (vN f l) H = some (vN f l, H) := softV_vList
theorem fl_vN {f : Bool} {l : List Nat} : (vN f l).flat = true := by cases l <;> rfl
theorem keep_vN {f : Bool} {l : List Nat} : keepK (vN f l) = some (vN f l) := keep_vList
theorem iaddr_vN {f : Bool} {l : List Nat} {j x : Nat} (h : l[j]? = some x) : iaddrV 1 (vN f l) j = some (.ptr (.val [.int .i64 (x : Int)]) 0) := iaddr_at nat1_len h
theorem taken_vN {f : Bool} {l : List Nat} {H : Heap} : taken 1 H (vN f l) = some (l.length, l.flatMap nat1) := taken_vList
theorem asStr_vN {f : Bool} {l : List Nat} : (vN f l).asStr = none := by cases l <;> rfl

set_option linter.defProp false in
def BS := And.intro @len_vN (And.intro @shutC_vN (And.intro @shutV_vN (And.intro @shutA_vN (And.intro @softV_vN (And.intro @fl_vN (And.intro @keep_vN @taken_vN))))))

def lies4 (t c o : Nat) : Bool := Nat.beq t 61 && Nat.beq c 2 && Nat.beq o 0
def own4 (f : FuncId) : Option (List AV → Heap → R) :=
  bif Nat.beq f 58 then some (ownCheck lies4) else bif Nat.beq f 51 then some ownString else bif Nat.beq f 33 then some (ownClone 1 8)
  else bif Nat.beq f 47 then some ownItoa else bif Nat.beq f 50 then some ownRepeat else none
def mode4 : FuncId → Nat
  | 48 | 49 => 0
  | _ => 2
noncomputable def P4 : Prg := slimPrg Tryd.prog own4 mode4
theorem cl13 {n : Nat} {caps xs : List AV} {H : Heap} : callV (callN P4 n) (.func 13 caps) xs H = callS P4 n 13 (mapHM shutV (xs ++ caps) H) := callV_s rfl rfl
theorem cl14 {n : Nat} {caps xs : List AV} {H : Heap} : callV (callN P4 n) (.func 14 caps) xs H = callS P4 n 14 (mapHM shutV (xs ++ caps) H) := callV_s rfl rfl
theorem cl15 {n : Nat} {caps xs : List AV} {H : Heap} : callV (callN P4 n) (.func 15 caps) xs H = callS P4 n 15 (mapHM shutV (xs ++ caps) H) := callV_s rfl rfl
theorem cl16 {n : Nat} {caps xs : List AV} {H : Heap} : callV (callN P4 n) (.func 16 caps) xs H = callS P4 n 16 (mapHM shutV (xs ++ caps) H) := callV_s rfl rfl
theorem cl17 {n : Nat} {caps xs : List AV} {H : Heap} : callV (callN P4 n) (.func 17 caps) xs H = callS P4 n 17 (mapHM shutV (xs ++ caps) H) := callV_s rfl rfl
theorem cl18 {n : Nat} {caps xs : List AV} {H : Heap} : callV (callN P4 n) (.func 18 caps) xs H = callS P4 n 18 (mapHM shutV (xs ++ caps) H) := callV_s rfl rfl
theorem cl19 {n : Nat} {caps xs : List AV} {H : Heap} : callV (callN P4 n) (.func 19 caps) xs H = callS P4 n 19 (mapHM shutV (xs ++ caps) H) := callV_s rfl rfl
theorem cl20 {n : Nat} {caps xs : List AV} {H : Heap} : callV (callN P4 n) (.func 20 caps) xs H = callS P4 n 20 (mapHM shutV (xs ++ caps) H) := callV_s rfl rfl
theorem cl21 {n : Nat} {caps xs : List AV} {H : Heap} : callV (callN P4 n) (.func 21 caps) xs H = callS P4 n 21 (mapHM shutV (xs ++ caps) H) := callV_s rfl rfl
theorem cl22 {n : Nat} {caps xs : List AV} {H : Heap} : callV (callN P4 n) (.func 22 caps) xs H = callS P4 n 22 (mapHM shutV (xs ++ caps) H) := callV_s rfl rfl
theorem cl23 {n : Nat} {caps xs : List AV} {H : Heap} : callV (callN P4 n) (.func 23 caps) xs H = callS P4 n 23 (mapHM shutV (xs ++ caps) H) := callV_s rfl rfl
theorem cl24 {n : Nat} {caps xs : List AV} {H : Heap} : callV (callN P4 n) (.func 24 caps) xs H = callS P4 n 24 (mapHM shutV (xs ++ caps) H) := callV_s rfl rfl
theorem cl25 {n : Nat} {caps xs : List AV} {H : Heap} : callV (callN P4 n) (.func 25 caps) xs H = callS P4 n 25 (mapHM shutV (xs ++ caps) H) := callV_s rfl rfl
theorem cl26 {n : Nat} {caps xs : List AV} {H : Heap} : callV (callN P4 n) (.func 26 caps) xs H = callS P4 n 26 (mapHM shutV (xs ++ caps) H) := callV_s rfl rfl
theorem cl27 {n : Nat} {caps xs : List AV} {H : Heap} : callV (callN P4 n) (.func 27 caps) xs H = callS P4 n 27 (mapHM shutV (xs ++ caps) H) := callV_s rfl rfl
theorem cl28 {n : Nat} {caps xs : List AV} {H : Heap} : callV (callN P4 n) (.func 28 caps) xs H = callS P4 n 28 (mapHM shutV (xs ++ caps) H) := callV_s rfl rfl
theorem cl29 {n : Nat} {caps xs : List AV} {H : Heap} : callV (callN P4 n) (.func 29 caps) xs H = callS P4 n 29 (mapHM shutV (xs ++ caps) H) := callV_s rfl rfl
theorem cl30 {n : Nat} {caps xs : List AV} {H : Heap} : callV (callN P4 n) (.func 30 caps) xs H = callS P4 n 30 (mapHM shutV (xs ++ caps) H) := callV_s rfl rfl
theorem cl31 {n : Nat} {caps xs : List AV} {H : Heap} : callV (callN P4 n) (.func 31 caps) xs H = callS P4 n 31 (mapHM shutV (xs ++ caps) H) := callV_s rfl rfl
theorem cl32 {n : Nat} {caps xs : List AV} {H : Heap} : callV (callN P4 n) (.func 32 caps) xs H = callS P4 n 32 (mapHM shutV (xs ++ caps) H) := callV_s rfl rfl
theorem cl33 {n : Nat} {caps xs : List AV} {H : Heap} : callV (callN P4 n) (.func 33 caps) xs H = callN P4 n 33 (xs ++ caps) H := rfl
theorem cl34 {n : Nat} {caps xs : List AV} {H : Heap} : callV (callN P4 n) (.func 34 caps) xs H = callS P4 n 34 (mapHM shutV (xs ++ caps) H) := callV_s rfl rfl
theorem cl35 {n : Nat} {caps xs : List AV} {H : Heap} : callV (callN P4 n) (.func 35 caps) xs H = callS P4 n 35 (mapHM shutV (xs ++ caps) H) := callV_s rfl rfl
theorem cl36 {n : Nat} {caps xs : List AV} {H : Heap} : callV (callN P4 n) (.func 36 caps) xs H = callS P4 n 36 (mapHM shutV (xs ++ caps) H) := callV_s rfl rfl
theorem cl37 {n : Nat} {caps xs : List AV} {H : Heap} : callV (callN P4 n) (.func 37 caps) xs H = callS P4 n 37 (mapHM shutV (xs ++ caps) H) := callV_s rfl rfl
theorem cl38 {n : Nat} {caps xs : List AV} {H : Heap} : callV (callN P4 n) (.func 38 caps) xs H = callS P4 n 38 (mapHM shutV (xs ++ caps) H) := callV_s rfl rfl
theorem cl39 {n : Nat} {caps xs : List AV} {H : Heap} : callV (callN P4 n) (.func 39 caps) xs H = callS P4 n 39 (mapHM shutV (xs ++ caps) H) := callV_s rfl rfl
theorem cl40 {n : Nat} {caps xs : List AV} {H : Heap} : callV (callN P4 n) (.func 40 caps) xs H = callS P4 n 40 (mapHM shutV (xs ++ caps) H) := callV_s rfl rfl
theorem cl41 {n : Nat} {caps xs : List AV} {H : Heap} : callV (callN P4 n) (.func 41 caps) xs H = callS P4 n 41 (mapHM shutV (xs ++ caps) H) := callV_s rfl rfl
theorem cl42 {n : Nat} {caps xs : List AV} {H : Heap} : callV (callN P4 n) (.func 42 caps) xs H = callS P4 n 42 (mapHM shutV (xs ++ caps) H) := callV_s rfl rfl
theorem cl43 {n : Nat} {caps xs : List AV} {H : Heap} : callV (callN P4 n) (.func 43 caps) xs H = callS P4 n 43 (mapHM shutV (xs ++ caps) H) := callV_s rfl rfl
theorem cl44 {n : Nat} {caps xs : List AV} {H : Heap} : callV (callN P4 n) (.func 44 caps) xs H = callS P4 n 44 (mapHM shutV (xs ++ caps) H) := callV_s rfl rfl
theorem cl45 {n : Nat} {caps xs : List AV} {H : Heap} : callV (callN P4 n) (.func 45 caps) xs H = callS P4 n 45 (mapHM shutV (xs ++ caps) H) := callV_s rfl rfl
theorem cl46 {n : Nat} {caps xs : List AV} {H : Heap} : callV (callN P4 n) (.func 46 caps) xs H = callS P4 n 46 (mapHM shutV (xs ++ caps) H) := callV_s rfl rfl
theorem cl47 {n : Nat} {caps xs : List AV} {H : Heap} : callV (callN P4 n) (.func 47 caps) xs H = callN P4 n 47 (xs ++ caps) H := rfl
theorem cl48 {n : Nat} {caps xs : List AV} {H : Heap} : callV (callN P4 n) (.func 48 caps) xs H = callN P4 n 48 (xs ++ caps) H := rfl
theorem cl49 {n : Nat} {caps xs : List AV} {H : Heap} : callV (callN P4 n) (.func 49 caps) xs H = callN P4 n 49 (xs ++ caps) H := rfl
theorem cl50 {n : Nat} {caps xs : List AV} {H : Heap} : callV (callN P4 n) (.func 50 caps) xs H = callN P4 n 50 (xs ++ caps) H := rfl
theorem cl51 {n : Nat} {caps xs : List AV} {H : Heap} : callV (callN P4 n) (.func 51 caps) xs H = callN P4 n 51 (xs ++ caps) H := rfl
theorem cl52 {n : Nat} {caps xs : List AV} {H : Heap} : callV (callN P4 n) (.func 52 caps) xs H = callS P4 n 52 (mapHM shutV (xs ++ caps) H) := callV_s rfl rfl
theorem cl53 {n : Nat} {caps xs : List AV} {H : Heap} : callV (callN P4 n) (.func 53 caps) xs H = callS P4 n 53 (mapHM shutV (xs ++ caps) H) := callV_s rfl rfl
theorem cl54 {n : Nat} {caps xs : List AV} {H : Heap} : callV (callN P4 n) (.func 54 caps) xs H = callS P4 n 54 (mapHM shutV (xs ++ caps) H) := callV_s rfl rfl
theorem cl55 {n : Nat} {caps xs : List AV} {H : Heap} : callV (callN P4 n) (.func 55 caps) xs H = callS P4 n 55 (mapHM shutV (xs ++ caps) H) := callV_s rfl rfl
theorem cl56 {n : Nat} {caps xs : List AV} {H : Heap} : callV (callN P4 n) (.func 56 caps) xs H = callS P4 n 56 (mapHM shutV (xs ++ caps) H) := callV_s rfl rfl
theorem cl58 {n : Nat} {caps xs : List AV} {H : Heap} : callV (callN P4 n) (.func 58 caps) xs H = callN P4 n 58 (xs ++ caps) H := rfl
set_option linter.defProp false in
def CL := (And.intro (And.intro (And.intro (And.intro (And.intro @cl13 @cl14) (And.intro @cl15 (And.intro @cl16 @cl17))) (And.intro (And.intro @cl18 (And.intro @cl19 @cl20)) (And.intro @cl21 (And.intro @cl22 @cl23)))) (And.intro (And.intro (And.intro @cl24 @cl25) (And.intro @cl26 (And.intro @cl27 @cl28))) (And.intro (And.intro @cl29 (And.intro @cl30 @cl31)) (And.intro @cl32 (And.intro @cl33 @cl34))))) (And.intro (And.intro (And.intro (And.intro @cl35 @cl36) (And.intro @cl37 (And.intro @cl38 @cl39))) (And.intro (And.intro @cl40 (And.intro @cl41 @cl42)) (And.intro @cl43 (And.intro @cl44 @cl45)))) (And.intro (And.intro (And.intro @cl46 (And.intro @cl47 @cl48)) (And.intro @cl49 (And.intro @cl50 @cl51))) (And.intro (And.intro @cl52 (And.intro @cl53 @cl54)) (And.intro @cl55 (And.intro @cl56 @cl58))))))

/-- a loop, of whose rest no more is known than what it needs -/
theorem loop_gen {call : CallF} {n m : Nat} {c : SCode} {fr : Fr} {H : Heap} {KK : Ex → Fr → Heap → R} {Q : AV → Heap → Prop} (J : Ex → Fr → Heap → Prop) (hfin : ∀ e fr H, J e fr H → Gives (KK e fr H) Q)
    (hl : ∀ KK' : Ex → Fr → Heap → R, (∀ e fr H, J e fr H → Gives (KK' e fr H) Q) → Gives (loopR call n c m fr H KK') Q) : Gives (loopR call n c m fr H KK) Q := hl KK hfin

/-- a number brought to 0 .. n - 1, as the program does it -/
def within (a n : Int) : Int := if a.tmod n < 0 then IntKind.i64.wrap (a.tmod n + n) else a.tmod n

theorem within15 (a b : Int) (hb : b ≠ 0) : Ret P4 15 [.int .i64 a, .int .i64 b] (.int .i64 (within a b)) := by
  refine Ret.of rfl (code15 _ _) rfl rfl (fun H => by simp -implicitDefEqProofs only [↓v_lenS, SB, POp.val, AOp.val, WOp.val, Lite.bin, intBin, strBin, eqv, eqMany, eq1, AV.asBool, AV.asInt, AV.asNat, AV.asPtr, AV.asStr, resVals, ResV.val, oneOr, wants, skipped, fillAt, putAt, capOf, optNat, bnd, Nat.reduceBEq, reduceIte, Nat.reduceAdd, Nat.reduceLeDiff, Nat.reduceEqDiff, Nat.reduceSub, Nat.reduceMul, Nat.reduceDiv, SOper.again, same, sameBlk, sameCap, Nat.reduceBneDiff, s_draw2, s_pair, k_pair, asunder, SOper.into, Bool.not_false, Bool.not_true]) (Ev.of fun n H => ?_)
  unfold within
  by_cases h : a.tmod b < 0
  all_goals simp -implicitDefEqProofs only [c15, ↓v_lenS, SB, POp.val, AOp.val, WOp.val, Lite.bin, intBin, strBin, eqv, eqMany, eq1, AV.asBool, AV.asInt, AV.asNat, AV.asPtr, AV.asStr, resVals, ResV.val, oneOr, wants, skipped, fillAt, putAt, capOf, optNat, bnd, Nat.reduceBEq, reduceIte, Nat.reduceAdd, Nat.reduceLeDiff, Nat.reduceEqDiff, Nat.reduceSub, Nat.reduceMul, Nat.reduceDiv, SOper.again, same, sameBlk, sameCap, Nat.reduceBneDiff, s_draw2, s_pair, k_pair, asunder, SOper.into, Bool.not_false, Bool.not_true, if_neg, if_pos, hb, h, Ends, gives_ret]
  all_goals exact ⟨_, rfl⟩

theorem within_range (a : Int) {b : Int} (h0 : 0 < b) (h1 : b ≤ 4611686018427387904) : 0 ≤ within a b ∧ within a b < b := by
  unfold within
  have h2 : a.tmod b < b := Int.tmod_lt_of_pos a h0
  have h3 : -b < a.tmod b := Int.lt_tmod_of_pos a h0
  split
  · rw [wrap64 (by omega) (by omega)]; omega
  · omega

/-- the least digit's text -/
theorem digit_wrap {n : Nat} (hn : n < 10) : IntKind.i64.wrap (48 + (n : Int)) = ((48 + n : Nat) : Int) := by rw [wrap64 (by omega) (by omega)]; omega
theorem digit_byte {n : Nat} (hn : n < 10) : IntKind.u8.wrap ((48 + n : Nat) : Int) = ((48 + n : Nat) : Int) := by
  have : ∀ n : Nat, n < 10 → IntKind.u8.wrap ((48 + n : Nat) : Int) = ((48 + n : Nat) : Int) := by decide
  exact this n hn
theorem digit_bytes {n : Nat} (hn : n < 10) : bytesOf [AV.int .u8 ((48 + n : Nat) : Int)] = some [48 + n] := by
  have : ∀ n : Nat, n < 10 → bytesOf [AV.int .u8 ((48 + n : Nat) : Int)] = some [48 + n] := by decide
  exact this n hn

/-- small numbers' texts -/
theorem small24 : ∀ n : Nat, n < 1000000000000 → Ret P4 24 [.int .i64 (n : Int)] (.str (decN n)) := decN_ind (P := fun n => n < 1000000000000 → Ret P4 24 [.int .i64 (n : Int)] (.str (decN n)))
  (fun n hn _ => by
    rw [decN_small hn]
    refine Ret.of rfl (code24 _ _) rfl rfl (fun H => by simp -implicitDefEqProofs only [↓v_lenS, SB, POp.val, AOp.val, WOp.val, Lite.bin, intBin, strBin, eqv, eqMany, eq1, AV.asBool, AV.asInt, AV.asNat, AV.asPtr, AV.asStr, resVals, ResV.val, oneOr, wants, skipped, fillAt, putAt, capOf, optNat, bnd, Nat.reduceBEq, reduceIte, Nat.reduceAdd, Nat.reduceLeDiff, Nat.reduceEqDiff, Nat.reduceSub, Nat.reduceMul, Nat.reduceDiv, SOper.again, same, sameBlk, sameCap, Nat.reduceBneDiff, s_draw2, s_pair, k_pair, asunder, SOper.into, Bool.not_false, Bool.not_true]) (Ev.of fun m H => ?_)
    have hc : ¬ (n : Int) < 0 := by omega
    have hc2 : ¬ (n : Int) ≥ 10 := by omega
    simp -implicitDefEqProofs only [c24, ↓v_lenS, SB, POp.val, AOp.val, WOp.val, Lite.bin, intBin, strBin, eqv, eqMany, eq1, AV.asBool, AV.asInt, AV.asNat, AV.asPtr, AV.asStr, resVals, ResV.val, oneOr, wants, skipped, fillAt, putAt, capOf, optNat, bnd, Nat.reduceBEq, reduceIte, Nat.reduceAdd, Nat.reduceLeDiff, Nat.reduceEqDiff, Nat.reduceSub, Nat.reduceMul, Nat.reduceDiv, SOper.again, same, sameBlk, sameCap, Nat.reduceBneDiff, s_draw2, s_pair, k_pair, asunder, SOper.into, Bool.not_false, Bool.not_true, hc, hc2, digit_wrap hn, digit_byte hn, digit_bytes hn, Ends, gives_ret, strOfBytes]
    exact ⟨_, rfl⟩)
  (fun n d hn hd ih hlt => by
    rw [decN_step hn hd]
    refine Ret.of rfl (code24 _ _) rfl rfl (fun H => by simp -implicitDefEqProofs only [↓v_lenS, SB, POp.val, AOp.val, WOp.val, Lite.bin, intBin, strBin, eqv, eqMany, eq1, AV.asBool, AV.asInt, AV.asNat, AV.asPtr, AV.asStr, resVals, ResV.val, oneOr, wants, skipped, fillAt, putAt, capOf, optNat, bnd, Nat.reduceBEq, reduceIte, Nat.reduceAdd, Nat.reduceLeDiff, Nat.reduceEqDiff, Nat.reduceSub, Nat.reduceMul, Nat.reduceDiv, SOper.again, same, sameBlk, sameCap, Nat.reduceBneDiff, s_draw2, s_pair, k_pair, asunder, SOper.into, Bool.not_false, Bool.not_true]) ((ih (by omega)).mono fun m e1 H => ?_)
    have hc : ¬ ((10 * n + d : Nat) : Int) < 0 := by omega
    have hc2 : ((10 * n + d : Nat) : Int) ≥ 10 := by omega
    have hq : IntKind.i64.wrap (((10 * n + d : Nat) : Int).tdiv 10) = ((n : Nat) : Int) := by
      rw [Int.tdiv_eq_ediv_of_nonneg (by omega), wrap64 (by omega) (by omega)]; omega
    have hr' : ((10 * n + d : Nat) : Int).tmod 10 = ((d : Nat) : Int) := by rw [Int.tmod_eq_emod_of_nonneg (by omega)]; omega
    have hr : IntKind.i64.wrap (((10 * n + d : Nat) : Int).tmod 10) = ((d : Nat) : Int) := by rw [hr', wrap64 (by omega) (by omega)]
    have h10 : ((10 : Int) == 0) = false := rfl
    have h10' : ¬ (10 : Int) = 0 := by omega
    have hl : (decN n).length + 1 ≤ 4611686018427387904 := by
      have := (decN_len_le (n := n) (k := 12) (by omega)).2 (by omega)
      omega
    generalize hN : 10 * n + d = N at hc hc2 hq hr hr' ⊢
    simp -implicitDefEqProofs only [c24, ↓v_lenS, SB, POp.val, AOp.val, WOp.val, Lite.bin, intBin, strBin, eqv, eqMany, eq1, AV.asBool, AV.asInt, AV.asNat, AV.asPtr, AV.asStr, resVals, ResV.val, oneOr, wants, skipped, fillAt, putAt, capOf, optNat, bnd, Nat.reduceBEq, reduceIte, Nat.reduceAdd, Nat.reduceLeDiff, Nat.reduceEqDiff, Nat.reduceSub, Nat.reduceMul, Nat.reduceDiv, SOper.again, same, sameBlk, sameCap, Nat.reduceBneDiff, s_draw2, s_pair, k_pair, asunder, SOper.into, Bool.not_false, Bool.not_true, CL, hc, hc2, hq, hr, hr', h10, h10', e1, digit_wrap hd, digit_byte hd, digit_bytes hd, hl, Ends, gives_ret, strOfBytes]
    exact ⟨_, rfl⟩)

end Go.Lite

/-
  A sign ahead of a text; the texts that are right.
-/
namespace Go.Lite
open Go Go.Proofs
set_option maxRecDepth 100000
set_option linter.unusedSimpArgs false
set_option linter.unusedVariables false

/-- whether a minus stands ahead; what is behind it -/
def negS : Str → Bool
  | c :: _ => c == 45
  | [] => false
def cutS : Str → Str
  | c :: s => if c = 45 then s else c :: s
  | [] => []

theorem cutS_len (s : Str) : (cutS s).length ≤ s.length := by
  cases s with
  | nil => simp [cutS]
  | cons c s => simp only [cutS]; split <;> simp

theorem pre56 (s : Str) (hs : s.length ≤ 4611686018427387904) : Ret P4 56 [.str s, .str [45]] (.bool (negS s)) := by
  refine Ret.of rfl (code56 _ _) rfl rfl (fun H => by simp -implicitDefEqProofs only [↓v_lenS, SB, POp.val, AOp.val, WOp.val, Lite.bin, intBin, strBin, eqv, eqMany, eq1, AV.asBool, AV.asInt, AV.asNat, AV.asPtr, AV.asStr, resVals, ResV.val, oneOr, wants, skipped, fillAt, putAt, capOf, optNat, bnd, Nat.reduceBEq, reduceIte, Nat.reduceAdd, Nat.reduceLeDiff, Nat.reduceEqDiff, Nat.reduceSub, Nat.reduceMul, Nat.reduceDiv, SOper.again, same, sameBlk, sameCap, Nat.reduceBneDiff, s_draw2, s_pair, k_pair, asunder, SOper.into, Bool.not_false, Bool.not_true]) (Ev.of fun n H => ?_)
  cases s with
  | nil =>
    have h0 : ¬ ((0 : Nat) : Int) ≥ ((1 : Nat) : Int) := by omega
    simp -implicitDefEqProofs only [c56, ↓v_lenS, SB, POp.val, AOp.val, WOp.val, Lite.bin, intBin, strBin, eqv, eqMany, eq1, AV.asBool, AV.asInt, AV.asNat, AV.asPtr, AV.asStr, resVals, ResV.val, oneOr, wants, skipped, fillAt, putAt, capOf, optNat, bnd, Nat.reduceBEq, reduceIte, Nat.reduceAdd, Nat.reduceLeDiff, Nat.reduceEqDiff, Nat.reduceSub, Nat.reduceMul, Nat.reduceDiv, SOper.again, same, sameBlk, sameCap, Nat.reduceBneDiff, s_draw2, s_pair, k_pair, asunder, SOper.into, Bool.not_false, Bool.not_true, h0, negS, Ends, gives_ret]
    exact ⟨_, rfl⟩
  | cons c s =>
    have hl : ((s.length + 1 : Nat) : Int) ≥ ((0 + 1 : Nat) : Int) := by omega
    have h1 : 0 + 1 ≤ s.length + 1 := by omega
    by_cases hc : c = 45
    · subst hc
      simp -implicitDefEqProofs only [c56, ↓v_lenS, SB, POp.val, AOp.val, WOp.val, Lite.bin, intBin, strBin, eqv, eqMany, eq1, AV.asBool, AV.asInt, AV.asNat, AV.asPtr, AV.asStr, resVals, ResV.val, oneOr, wants, skipped, fillAt, putAt, capOf, optNat, bnd, Nat.reduceBEq, reduceIte, Nat.reduceAdd, Nat.reduceLeDiff, Nat.reduceEqDiff, Nat.reduceSub, Nat.reduceMul, Nat.reduceDiv, SOper.again, same, sameBlk, sameCap, Nat.reduceBneDiff, s_draw2, s_pair, k_pair, asunder, SOper.into, Bool.not_false, Bool.not_true, negS, Ends, gives_ret, hl, h1]
      exact ⟨_, rfl⟩
    · have h2 : (c == 45) = false := by simpa using hc
      have h3 : ([c] == [45]) = false := by simpa using hc
      simp -implicitDefEqProofs only [c56, ↓v_lenS, SB, POp.val, AOp.val, WOp.val, Lite.bin, intBin, strBin, eqv, eqMany, eq1, AV.asBool, AV.asInt, AV.asNat, AV.asPtr, AV.asStr, resVals, ResV.val, oneOr, wants, skipped, fillAt, putAt, capOf, optNat, bnd, Nat.reduceBEq, reduceIte, Nat.reduceAdd, Nat.reduceLeDiff, Nat.reduceEqDiff, Nat.reduceSub, Nat.reduceMul, Nat.reduceDiv, SOper.again, same, sameBlk, sameCap, Nat.reduceBneDiff, s_draw2, s_pair, k_pair, asunder, SOper.into, Bool.not_false, Bool.not_true, negS, Ends, gives_ret, hl, h1, h2, h3]
      exact ⟨_, rfl⟩

theorem cut46 (s : Str) (hs : s.length ≤ 4611686018427387904) : Ret P4 46 [.str s, .str [45]] (.tuple [.str (cutS s), .bool (negS s)]) := by
  refine Ret.of rfl (code46 _ _) rfl rfl (fun H => by simp -implicitDefEqProofs only [↓v_lenS, SB, POp.val, AOp.val, WOp.val, Lite.bin, intBin, strBin, eqv, eqMany, eq1, AV.asBool, AV.asInt, AV.asNat, AV.asPtr, AV.asStr, resVals, ResV.val, oneOr, wants, skipped, fillAt, putAt, capOf, optNat, bnd, Nat.reduceBEq, reduceIte, Nat.reduceAdd, Nat.reduceLeDiff, Nat.reduceEqDiff, Nat.reduceSub, Nat.reduceMul, Nat.reduceDiv, SOper.again, same, sameBlk, sameCap, Nat.reduceBneDiff, s_draw2, s_pair, k_pair, asunder, SOper.into, Bool.not_false, Bool.not_true]) ((pre56 s hs).mono fun n e1 H => ?_)
  cases s with
  | nil =>
    simp -implicitDefEqProofs only [negS] at e1
    simp -implicitDefEqProofs only [c46, ↓v_lenS, SB, POp.val, AOp.val, WOp.val, Lite.bin, intBin, strBin, eqv, eqMany, eq1, AV.asBool, AV.asInt, AV.asNat, AV.asPtr, AV.asStr, resVals, ResV.val, oneOr, wants, skipped, fillAt, putAt, capOf, optNat, bnd, Nat.reduceBEq, reduceIte, Nat.reduceAdd, Nat.reduceLeDiff, Nat.reduceEqDiff, Nat.reduceSub, Nat.reduceMul, Nat.reduceDiv, SOper.again, same, sameBlk, sameCap, Nat.reduceBneDiff, s_draw2, s_pair, k_pair, asunder, SOper.into, Bool.not_false, Bool.not_true, CL, e1, negS, cutS, Ends, gives_ret]
    exact ⟨_, rfl⟩
  | cons c s =>
    have h1 : 0 + 1 ≤ s.length + 1 := by omega
    have h4 : List.take (s.length + 1 - (0 + 1)) s = s := List.take_of_length_le (by omega)
    have h4' : List.take s.length s = s := List.take_of_length_le (by omega)
    by_cases hc : c = 45
    · subst hc
      simp -implicitDefEqProofs only [negS, beq_self_eq_true] at e1
      simp -implicitDefEqProofs only [c46, ↓v_lenS, SB, POp.val, AOp.val, WOp.val, Lite.bin, intBin, strBin, eqv, eqMany, eq1, AV.asBool, AV.asInt, AV.asNat, AV.asPtr, AV.asStr, resVals, ResV.val, oneOr, wants, skipped, fillAt, putAt, capOf, optNat, bnd, Nat.reduceBEq, reduceIte, Nat.reduceAdd, Nat.reduceLeDiff, Nat.reduceEqDiff, Nat.reduceSub, Nat.reduceMul, Nat.reduceDiv, SOper.again, same, sameBlk, sameCap, Nat.reduceBneDiff, s_draw2, s_pair, k_pair, asunder, SOper.into, Bool.not_false, Bool.not_true, CL, e1, negS, cutS, Ends, gives_ret, h1, h4, h4', Nat.add_sub_cancel, Nat.le_add_left]
      exact ⟨_, rfl⟩
    · have h2 : (c == 45) = false := by simpa using hc
      simp -implicitDefEqProofs only [negS, h2] at e1
      simp -implicitDefEqProofs only [c46, ↓v_lenS, SB, POp.val, AOp.val, WOp.val, Lite.bin, intBin, strBin, eqv, eqMany, eq1, AV.asBool, AV.asInt, AV.asNat, AV.asPtr, AV.asStr, resVals, ResV.val, oneOr, wants, skipped, fillAt, putAt, capOf, optNat, bnd, Nat.reduceBEq, reduceIte, Nat.reduceAdd, Nat.reduceLeDiff, Nat.reduceEqDiff, Nat.reduceSub, Nat.reduceMul, Nat.reduceDiv, SOper.again, same, sameBlk, sameCap, Nat.reduceBneDiff, s_draw2, s_pair, k_pair, asunder, SOper.into, Bool.not_false, Bool.not_true, CL, e1, negS, cutS, Ends, gives_ret, h1, h2, hc]
      exact ⟨_, rfl⟩

theorem cut29 (s : Str) (hs : s.length ≤ 4611686018427387904) : Ret P4 29 [.str s, .str [45]] (.tuple [.str (cutS s), .bool (negS s)]) := by
  refine Ret.of rfl (code29 _ _) rfl rfl (fun H => by simp -implicitDefEqProofs only [↓v_lenS, SB, POp.val, AOp.val, WOp.val, Lite.bin, intBin, strBin, eqv, eqMany, eq1, AV.asBool, AV.asInt, AV.asNat, AV.asPtr, AV.asStr, resVals, ResV.val, oneOr, wants, skipped, fillAt, putAt, capOf, optNat, bnd, Nat.reduceBEq, reduceIte, Nat.reduceAdd, Nat.reduceLeDiff, Nat.reduceEqDiff, Nat.reduceSub, Nat.reduceMul, Nat.reduceDiv, SOper.again, same, sameBlk, sameCap, Nat.reduceBneDiff, s_draw2, s_pair, k_pair, asunder, SOper.into, Bool.not_false, Bool.not_true]) ((cut46 s hs).mono fun n e1 H => ?_)
  simp -implicitDefEqProofs only [c29, ↓v_lenS, SB, POp.val, AOp.val, WOp.val, Lite.bin, intBin, strBin, eqv, eqMany, eq1, AV.asBool, AV.asInt, AV.asNat, AV.asPtr, AV.asStr, resVals, ResV.val, oneOr, wants, skipped, fillAt, putAt, capOf, optNat, bnd, Nat.reduceBEq, reduceIte, Nat.reduceAdd, Nat.reduceLeDiff, Nat.reduceEqDiff, Nat.reduceSub, Nat.reduceMul, Nat.reduceDiv, SOper.again, same, sameBlk, sameCap, Nat.reduceBneDiff, s_draw2, s_pair, k_pair, asunder, SOper.into, Bool.not_false, Bool.not_true, CL, e1, Ends, gives_ret]
  exact ⟨_, rfl⟩

theorem trim52 (s : Str) (hs : s.length ≤ 4611686018427387904) : Ret P4 52 [.str s, .str [45]] (.str (cutS s)) := by
  refine Ret.of rfl (code52 _ _) rfl rfl (fun H => by simp -implicitDefEqProofs only [↓v_lenS, SB, POp.val, AOp.val, WOp.val, Lite.bin, intBin, strBin, eqv, eqMany, eq1, AV.asBool, AV.asInt, AV.asNat, AV.asPtr, AV.asStr, resVals, ResV.val, oneOr, wants, skipped, fillAt, putAt, capOf, optNat, bnd, Nat.reduceBEq, reduceIte, Nat.reduceAdd, Nat.reduceLeDiff, Nat.reduceEqDiff, Nat.reduceSub, Nat.reduceMul, Nat.reduceDiv, SOper.again, same, sameBlk, sameCap, Nat.reduceBneDiff, s_draw2, s_pair, k_pair, asunder, SOper.into, Bool.not_false, Bool.not_true]) ((pre56 s hs).mono fun n e1 H => ?_)
  cases s with
  | nil =>
    simp -implicitDefEqProofs only [negS] at e1
    simp -implicitDefEqProofs only [c52, ↓v_lenS, SB, POp.val, AOp.val, WOp.val, Lite.bin, intBin, strBin, eqv, eqMany, eq1, AV.asBool, AV.asInt, AV.asNat, AV.asPtr, AV.asStr, resVals, ResV.val, oneOr, wants, skipped, fillAt, putAt, capOf, optNat, bnd, Nat.reduceBEq, reduceIte, Nat.reduceAdd, Nat.reduceLeDiff, Nat.reduceEqDiff, Nat.reduceSub, Nat.reduceMul, Nat.reduceDiv, SOper.again, same, sameBlk, sameCap, Nat.reduceBneDiff, s_draw2, s_pair, k_pair, asunder, SOper.into, Bool.not_false, Bool.not_true, CL, e1, negS, cutS, Ends, gives_ret]
    exact ⟨_, rfl⟩
  | cons c s =>
    have h1 : 0 + 1 ≤ s.length + 1 := by omega
    have h4 : List.take (s.length + 1 - (0 + 1)) s = s := List.take_of_length_le (by omega)
    have h4' : List.take s.length s = s := List.take_of_length_le (by omega)
    by_cases hc : c = 45
    · subst hc
      simp -implicitDefEqProofs only [negS, beq_self_eq_true] at e1
      simp -implicitDefEqProofs only [c52, ↓v_lenS, SB, POp.val, AOp.val, WOp.val, Lite.bin, intBin, strBin, eqv, eqMany, eq1, AV.asBool, AV.asInt, AV.asNat, AV.asPtr, AV.asStr, resVals, ResV.val, oneOr, wants, skipped, fillAt, putAt, capOf, optNat, bnd, Nat.reduceBEq, reduceIte, Nat.reduceAdd, Nat.reduceLeDiff, Nat.reduceEqDiff, Nat.reduceSub, Nat.reduceMul, Nat.reduceDiv, SOper.again, same, sameBlk, sameCap, Nat.reduceBneDiff, s_draw2, s_pair, k_pair, asunder, SOper.into, Bool.not_false, Bool.not_true, CL, e1, negS, cutS, Ends, gives_ret, h1, h4, h4', Nat.add_sub_cancel, Nat.le_add_left]
      exact ⟨_, rfl⟩
    · have h2 : (c == 45) = false := by simpa using hc
      simp -implicitDefEqProofs only [negS, h2] at e1
      simp -implicitDefEqProofs only [c52, ↓v_lenS, SB, POp.val, AOp.val, WOp.val, Lite.bin, intBin, strBin, eqv, eqMany, eq1, AV.asBool, AV.asInt, AV.asNat, AV.asPtr, AV.asStr, resVals, ResV.val, oneOr, wants, skipped, fillAt, putAt, capOf, optNat, bnd, Nat.reduceBEq, reduceIte, Nat.reduceAdd, Nat.reduceLeDiff, Nat.reduceEqDiff, Nat.reduceSub, Nat.reduceMul, Nat.reduceDiv, SOper.again, same, sameBlk, sameCap, Nat.reduceBneDiff, s_draw2, s_pair, k_pair, asunder, SOper.into, Bool.not_false, Bool.not_true, CL, e1, negS, cutS, Ends, gives_ret, h1, h2, hc]
      exact ⟨_, rfl⟩

theorem trim36 (s : Str) (hs : s.length ≤ 4611686018427387904) : Ret P4 36 [.str s, .str [45]] (.str (cutS s)) := by
  refine Ret.of rfl (code36 _ _) rfl rfl (fun H => by simp -implicitDefEqProofs only [↓v_lenS, SB, POp.val, AOp.val, WOp.val, Lite.bin, intBin, strBin, eqv, eqMany, eq1, AV.asBool, AV.asInt, AV.asNat, AV.asPtr, AV.asStr, resVals, ResV.val, oneOr, wants, skipped, fillAt, putAt, capOf, optNat, bnd, Nat.reduceBEq, reduceIte, Nat.reduceAdd, Nat.reduceLeDiff, Nat.reduceEqDiff, Nat.reduceSub, Nat.reduceMul, Nat.reduceDiv, SOper.again, same, sameBlk, sameCap, Nat.reduceBneDiff, s_draw2, s_pair, k_pair, asunder, SOper.into, Bool.not_false, Bool.not_true]) ((trim52 s hs).mono fun n e1 H => ?_)
  simp -implicitDefEqProofs only [c36, ↓v_lenS, SB, POp.val, AOp.val, WOp.val, Lite.bin, intBin, strBin, eqv, eqMany, eq1, AV.asBool, AV.asInt, AV.asNat, AV.asPtr, AV.asStr, resVals, ResV.val, oneOr, wants, skipped, fillAt, putAt, capOf, optNat, bnd, Nat.reduceBEq, reduceIte, Nat.reduceAdd, Nat.reduceLeDiff, Nat.reduceEqDiff, Nat.reduceSub, Nat.reduceMul, Nat.reduceDiv, SOper.again, same, sameBlk, sameCap, Nat.reduceBneDiff, s_draw2, s_pair, k_pair, asunder, SOper.into, Bool.not_false, Bool.not_true, CL, e1, Ends, gives_ret]
  exact ⟨_, rfl⟩

end Go.Lite

/-
  Which texts are right: the program's word, the document's.
-/
namespace Go.Lite
open Go Go.Proofs
set_option maxRecDepth 100000
set_option linter.unusedSimpArgs false
set_option linter.unusedVariables false

def dig (c : Nat) : Bool := decide (48 ≤ c) && decide (c ≤ 57)
theorem dig_iff {c : Nat} : dig c = true ↔ 48 ≤ c ∧ c ≤ 57 := by simp [dig]
theorem dig_not {c : Nat} : dig c = false ↔ ¬ (48 ≤ c ∧ c ≤ 57) := by rw [← dig_iff]; simp

/-- how many digits stand ahead -/
def headN (t : Str) : Nat := (t.takeWhile dig).length

theorem head_le (t : Str) : headN t ≤ t.length := by
  unfold headN
  induction t with
  | nil => simp
  | cons c t ih => rw [List.takeWhile_cons]; split <;> simp; omega

theorem head_dig : ∀ {t : Str} {i : Nat}, i < headN t → ∃ c, t[i]? = some c ∧ dig c = true
  | [], i, h => by simp [headN] at h
  | c :: t, i, h => by
    unfold headN at h
    rw [List.takeWhile_cons] at h
    split at h
    case isFalse => simp at h
    rename_i hc
    cases i with
    | zero => exact ⟨c, rfl, hc⟩
    | succ i => exact head_dig (t := t) (i := i) (by simp only [List.length_cons] at h; unfold headN; omega)

theorem head_last : ∀ (t : Str), (headN t = t.length ∧ t.all dig = true) ∨ ∃ c, t[headN t]? = some c ∧ dig c = false ∧ t.all dig = false
  | [] => .inl ⟨rfl, rfl⟩
  | c :: t => by
    cases hc : dig c with
    | false =>
      refine .inr ⟨c, ?_, hc, by rw [List.all_cons, hc]; rfl⟩
      unfold headN
      rw [List.takeWhile_cons, hc]
      rfl
    | true =>
      have e : headN (c :: t) = headN t + 1 := by unfold headN; rw [List.takeWhile_cons, hc]; rfl
      rcases head_last t with ⟨h1, h2⟩ | ⟨d, h1, h2, h3⟩
      · exact .inl ⟨by rw [e, h1]; rfl, by rw [List.all_cons, hc, h2]; rfl⟩
      · exact .inr ⟨d, by rw [e]; exact h1, h2, by rw [List.all_cons, h3, Bool.and_false]⟩

theorem decode_small {s : Str} {c : Nat} (h : s[0]? = some c) (hc : c < 128) : decodeAt s = (c, 1) := by
  cases s with
  | nil => simp at h
  | cons d s =>
    simp only [List.getElem?_cons_zero, Option.some.injEq] at h
    subst h
    simp [decodeAt, hc]

theorem decode_big {s : Str} {c : Nat} (h : s[0]? = some c) (hc : 128 ≤ c) : 128 ≤ (decodeAt s).1 := by
  cases s with
  | nil => simp at h
  | cons d s =>
    simp only [List.getElem?_cons_zero, Option.some.injEq] at h
    subst h
    have he : 128 ≤ Utf8.runeError := by decide
    simp only [decodeAt]
    repeat' split
    all_goals first | exact he | (simp at *; omega)

def rightT (b : Bool) (t : Str) : Bool := !(t.isEmpty) && decide (t.length ≤ 200) && !((t[0]? == some 48) && (b || decide (1 < t.length))) && t.all dig
def rightB (s : Str) : Bool := rightT (negS s) (cutS s)

theorem right16_l0 {n : Nat} {t : Str} {k : Nat} {fr : Fr} {H : Heap} {KK : Ex → Fr → Heap → R} (hn : t.length < n) (h33 : fr 33 = .ptr (.new k) 0) (hk : H.t.get k = some (.iter t 0))
    (hT : t.all dig = true → ∀ fr H, Ends (KK (.exit 0) fr H) (.bool true))
    (hF : t.all dig = false → ∀ (fr : Fr) H, fr 2 = .bool false → Ends (KK .ret fr H) (.bool false)) :
    Ends (loopR (callN P4 n) n c16_l0 n fr H KK) (.bool (t.all dig)) := by
  have hl := head_le t
  refine loop_rounds (headN t) (fun i fr H => fr 33 = .ptr (.new k) 0 ∧ H.t.get k = some (.iter t i)) ?_ ?_ n 0 _ _ (by omega) (by omega) ⟨h33, hk⟩
  · rintro i fr H K' hi ⟨h33, hk⟩ hKe hKr hK
    obtain ⟨c, hc, hd⟩ := head_dig hi
    rw [dig_iff] at hd
    have hlt : i < t.length := by omega
    have hde : decodeAt (t.drop i) = (c, 1) := decode_small (by rw [List.getElem?_drop]; exact hc) (by omega)
    have c1 : ¬ (c : Int) < 48 := by omega
    have c2 : ¬ (c : Int) > 57 := by omega
    simp -implicitDefEqProofs only [c16_l0, ↓v_lenS, SB, POp.val, AOp.val, WOp.val, Lite.bin, intBin, strBin, eqv, eqMany, eq1, AV.asBool, AV.asInt, AV.asNat, AV.asPtr, AV.asStr, resVals, ResV.val, oneOr, wants, skipped, fillAt, putAt, capOf, optNat, bnd, Nat.reduceBEq, reduceIte, Nat.reduceAdd, Nat.reduceLeDiff, Nat.reduceEqDiff, Nat.reduceSub, Nat.reduceMul, Nat.reduceDiv, SOper.again, same, sameBlk, sameCap, Nat.reduceBneDiff, s_draw2, s_pair, k_pair, asunder, SOper.into, Bool.not_false, Bool.not_true, h33, hk, hlt, hde, c1, c2]
    refine hK _ _ ⟨?_, ?_⟩
    all_goals simp -implicitDefEqProofs only [↓v_lenS, SB, POp.val, AOp.val, WOp.val, Lite.bin, intBin, strBin, eqv, eqMany, eq1, AV.asBool, AV.asInt, AV.asNat, AV.asPtr, AV.asStr, resVals, ResV.val, oneOr, wants, skipped, fillAt, putAt, capOf, optNat, bnd, Nat.reduceBEq, reduceIte, Nat.reduceAdd, Nat.reduceLeDiff, Nat.reduceEqDiff, Nat.reduceSub, Nat.reduceMul, Nat.reduceDiv, SOper.again, same, sameBlk, sameCap, Nat.reduceBneDiff, s_draw2, s_pair, k_pair, asunder, SOper.into, Bool.not_false, Bool.not_true, h33]
  · rintro fr H K' ⟨h33, hk⟩ hKe hKr
    rcases head_last t with ⟨h1, h2⟩ | ⟨c, h1, h2, h3⟩
    · rw [h1] at hk
      have hlt : ¬ t.length < t.length := by omega
      simp -implicitDefEqProofs only [c16_l0, ↓v_lenS, SB, POp.val, AOp.val, WOp.val, Lite.bin, intBin, strBin, eqv, eqMany, eq1, AV.asBool, AV.asInt, AV.asNat, AV.asPtr, AV.asStr, resVals, ResV.val, oneOr, wants, skipped, fillAt, putAt, capOf, optNat, bnd, Nat.reduceBEq, reduceIte, Nat.reduceAdd, Nat.reduceLeDiff, Nat.reduceEqDiff, Nat.reduceSub, Nat.reduceMul, Nat.reduceDiv, SOper.again, same, sameBlk, sameCap, Nat.reduceBneDiff, s_draw2, s_pair, k_pair, asunder, SOper.into, Bool.not_false, Bool.not_true, h33, hk, hlt, hKe]
      have := hT h2
      rw [h2]
      exact this _ _
    · rw [dig_not] at h2
      have hlt : headN t < t.length := (List.getElem?_eq_some_iff.1 h1).1
      have hd : ¬ (48 ≤ (decodeAt (t.drop (headN t))).1 ∧ (decodeAt (t.drop (headN t))).1 ≤ 57) := by
        have h0 : (t.drop (headN t))[0]? = some c := by rw [List.getElem?_drop]; exact h1
        rcases Nat.lt_or_ge c 128 with h | h
        · rw [decode_small h0 h]; exact h2
        · have := decode_big h0 h
          omega
      generalize hr : decodeAt (t.drop (headN t)) = r at hd
      obtain ⟨r, q⟩ := r
      rw [h3]
      by_cases c1 : (r : Int) < 48
      · simp -implicitDefEqProofs only [c16_l0, ↓v_lenS, SB, POp.val, AOp.val, WOp.val, Lite.bin, intBin, strBin, eqv, eqMany, eq1, AV.asBool, AV.asInt, AV.asNat, AV.asPtr, AV.asStr, resVals, ResV.val, oneOr, wants, skipped, fillAt, putAt, capOf, optNat, bnd, Nat.reduceBEq, reduceIte, Nat.reduceAdd, Nat.reduceLeDiff, Nat.reduceEqDiff, Nat.reduceSub, Nat.reduceMul, Nat.reduceDiv, SOper.again, same, sameBlk, sameCap, Nat.reduceBneDiff, s_draw2, s_pair, k_pair, asunder, SOper.into, Bool.not_false, Bool.not_true, h33, hk, hlt, hr, c1, hKr]
        refine hF h3 _ _ ?_
        simp -implicitDefEqProofs only [↓v_lenS, SB, POp.val, AOp.val, WOp.val, Lite.bin, intBin, strBin, eqv, eqMany, eq1, AV.asBool, AV.asInt, AV.asNat, AV.asPtr, AV.asStr, resVals, ResV.val, oneOr, wants, skipped, fillAt, putAt, capOf, optNat, bnd, Nat.reduceBEq, reduceIte, Nat.reduceAdd, Nat.reduceLeDiff, Nat.reduceEqDiff, Nat.reduceSub, Nat.reduceMul, Nat.reduceDiv, SOper.again, same, sameBlk, sameCap, Nat.reduceBneDiff, s_draw2, s_pair, k_pair, asunder, SOper.into, Bool.not_false, Bool.not_true]
      · have c2 : (r : Int) > 57 := by simp at hd; omega
        simp -implicitDefEqProofs only [c16_l0, ↓v_lenS, SB, POp.val, AOp.val, WOp.val, Lite.bin, intBin, strBin, eqv, eqMany, eq1, AV.asBool, AV.asInt, AV.asNat, AV.asPtr, AV.asStr, resVals, ResV.val, oneOr, wants, skipped, fillAt, putAt, capOf, optNat, bnd, Nat.reduceBEq, reduceIte, Nat.reduceAdd, Nat.reduceLeDiff, Nat.reduceEqDiff, Nat.reduceSub, Nat.reduceMul, Nat.reduceDiv, SOper.again, same, sameBlk, sameCap, Nat.reduceBneDiff, s_draw2, s_pair, k_pair, asunder, SOper.into, Bool.not_false, Bool.not_true, h33, hk, hlt, hr, c1, c2, hKr]
        refine hF h3 _ _ ?_
        simp -implicitDefEqProofs only [↓v_lenS, SB, POp.val, AOp.val, WOp.val, Lite.bin, intBin, strBin, eqv, eqMany, eq1, AV.asBool, AV.asInt, AV.asNat, AV.asPtr, AV.asStr, resVals, ResV.val, oneOr, wants, skipped, fillAt, putAt, capOf, optNat, bnd, Nat.reduceBEq, reduceIte, Nat.reduceAdd, Nat.reduceLeDiff, Nat.reduceEqDiff, Nat.reduceSub, Nat.reduceMul, Nat.reduceDiv, SOper.again, same, sameBlk, sameCap, Nat.reduceBneDiff, s_draw2, s_pair, k_pair, asunder, SOper.into, Bool.not_false, Bool.not_true]

theorem i_toNat0 : Int.toNat 0 = 0 := rfl
theorem i_48 : (((48 : Nat) : Int) == 48) = true := rfl
theorem i_le0 : ((0 : Int) ≤ 0) = True := by simp

theorem right16 (s : Str) (hs : s.length ≤ 4611686018427387904) : Ret P4 16 [.str s] (.bool (rightB s)) := by
  refine Ret.of rfl (code16 _ _) rfl rfl (fun H => by simp -implicitDefEqProofs only [↓v_lenS, SB, POp.val, AOp.val, WOp.val, Lite.bin, intBin, strBin, eqv, eqMany, eq1, AV.asBool, AV.asInt, AV.asNat, AV.asPtr, AV.asStr, resVals, ResV.val, oneOr, wants, skipped, fillAt, putAt, capOf, optNat, bnd, Nat.reduceBEq, reduceIte, Nat.reduceAdd, Nat.reduceLeDiff, Nat.reduceEqDiff, Nat.reduceSub, Nat.reduceMul, Nat.reduceDiv, SOper.again, same, sameBlk, sameCap, Nat.reduceBneDiff, s_draw2, s_pair, k_pair, asunder, SOper.into, Bool.not_false, Bool.not_true]) (((cut29 s hs).and (Ev.ge ((cutS s).length + 1))).mono fun n e H => ?_)
  obtain ⟨e1, hge⟩ := e
  have hlen := cutS_len s
  unfold rightB
  generalize cutS s = t at *
  generalize negS s = b at *
  unfold rightT
  cases t with
  | nil =>
    simp -implicitDefEqProofs only [c16, ↓v_lenS, SB, POp.val, AOp.val, WOp.val, Lite.bin, intBin, strBin, eqv, eqMany, eq1, AV.asBool, AV.asInt, AV.asNat, AV.asPtr, AV.asStr, resVals, ResV.val, oneOr, wants, skipped, fillAt, putAt, capOf, optNat, bnd, Nat.reduceBEq, reduceIte, Nat.reduceAdd, Nat.reduceLeDiff, Nat.reduceEqDiff, Nat.reduceSub, Nat.reduceMul, Nat.reduceDiv, SOper.again, same, sameBlk, sameCap, Nat.reduceBneDiff, s_draw2, s_pair, k_pair, asunder, SOper.into, Bool.not_false, Bool.not_true, CL, e1, Ends, gives_ret]
    exact ⟨_, rfl⟩
  | cons c t =>
    have hE : ((c :: t) == ([] : List Nat)) = false := rfl
    by_cases h1 : t.length + 1 ≤ 200
    · have c1 : ¬ ((t.length + 1 : Nat) : Int) > 200 := by omega
      have loop : ∀ (fr : Fr) (H : Heap), fr 33 = .ptr (.new H.n) 0 → Ends (loopR (callN P4 n) n c16_l0 n fr (H.push (.iter (c :: t) 0)) (blockK 0 (seqK (callN P4 n) n (((SCode.ops [SOper.mk (some 2) none (.p (.move (.lit (.bool true))))]).seq SCode.ret)) (finish [ResV.tmp 2])))) (.bool ((c :: t).all dig)) := by
        intro fr H h33
        refine right16_l0 (by omega) h33 (by rw [h_get, if_pos rfl]) (fun _ fr H => ?_) (fun _ fr H h2 => ?_)
        · simp -implicitDefEqProofs only [↓v_lenS, SB, POp.val, AOp.val, WOp.val, Lite.bin, intBin, strBin, eqv, eqMany, eq1, AV.asBool, AV.asInt, AV.asNat, AV.asPtr, AV.asStr, resVals, ResV.val, oneOr, wants, skipped, fillAt, putAt, capOf, optNat, bnd, Nat.reduceBEq, reduceIte, Nat.reduceAdd, Nat.reduceLeDiff, Nat.reduceEqDiff, Nat.reduceSub, Nat.reduceMul, Nat.reduceDiv, SOper.again, same, sameBlk, sameCap, Nat.reduceBneDiff, s_draw2, s_pair, k_pair, asunder, SOper.into, Bool.not_false, Bool.not_true, k_blockE, Ends, gives_ret]
          exact ⟨_, rfl⟩
        · simp -implicitDefEqProofs only [↓v_lenS, SB, POp.val, AOp.val, WOp.val, Lite.bin, intBin, strBin, eqv, eqMany, eq1, AV.asBool, AV.asInt, AV.asNat, AV.asPtr, AV.asStr, resVals, ResV.val, oneOr, wants, skipped, fillAt, putAt, capOf, optNat, bnd, Nat.reduceBEq, reduceIte, Nat.reduceAdd, Nat.reduceLeDiff, Nat.reduceEqDiff, Nat.reduceSub, Nat.reduceMul, Nat.reduceDiv, SOper.again, same, sameBlk, sameCap, Nat.reduceBneDiff, s_draw2, s_pair, k_pair, asunder, SOper.into, Bool.not_false, Bool.not_true, h2, Ends, gives_ret]
          exact ⟨_, rfl⟩
      by_cases h2 : c = 48
      · subst h2
        cases b with
        | true =>
          simp -implicitDefEqProofs only [c16, ↓v_lenS, SB, POp.val, AOp.val, WOp.val, Lite.bin, intBin, strBin, eqv, eqMany, eq1, AV.asBool, AV.asInt, AV.asNat, AV.asPtr, AV.asStr, resVals, ResV.val, oneOr, wants, skipped, fillAt, putAt, capOf, optNat, bnd, Nat.reduceBEq, reduceIte, Nat.reduceAdd, Nat.reduceLeDiff, Nat.reduceEqDiff, Nat.reduceSub, Nat.reduceMul, Nat.reduceDiv, SOper.again, same, sameBlk, sameCap, Nat.reduceBneDiff, s_draw2, s_pair, k_pair, asunder, SOper.into, Bool.not_false, Bool.not_true, CL, e1, hE, c1, i_toNat0, i_le0, i_48, Ends, gives_ret]
          exact ⟨_, rfl⟩
        | false =>
          cases t with
          | nil =>
            have c1' : ¬ ((1 : Nat) : Int) > 200 := by omega
            have c2 : ¬ ((1 : Nat) : Int) > 1 := by omega
            have hb : ((48 : Nat) :: []).all dig = true := rfl
            simp -implicitDefEqProofs only [c16, ↓v_lenS, SB, POp.val, AOp.val, WOp.val, Lite.bin, intBin, strBin, eqv, eqMany, eq1, AV.asBool, AV.asInt, AV.asNat, AV.asPtr, AV.asStr, resVals, ResV.val, oneOr, wants, skipped, fillAt, putAt, capOf, optNat, bnd, Nat.reduceBEq, reduceIte, Nat.reduceAdd, Nat.reduceLeDiff, Nat.reduceEqDiff, Nat.reduceSub, Nat.reduceMul, Nat.reduceDiv, SOper.again, same, sameBlk, sameCap, Nat.reduceBneDiff, s_draw2, s_pair, k_pair, asunder, SOper.into, Bool.not_false, Bool.not_true, CL, e1, hE, c1, c1', c2, i_toNat0, i_le0, i_48]
            exact loop _ _ rfl
          | cons d t =>
            have c1' : ¬ ((t.length + 1 + 1 : Nat) : Int) > 200 := c1
            have c2 : ((t.length + 1 + 1 : Nat) : Int) > 1 := by omega
            simp -implicitDefEqProofs only [c16, ↓v_lenS, SB, POp.val, AOp.val, WOp.val, Lite.bin, intBin, strBin, eqv, eqMany, eq1, AV.asBool, AV.asInt, AV.asNat, AV.asPtr, AV.asStr, resVals, ResV.val, oneOr, wants, skipped, fillAt, putAt, capOf, optNat, bnd, Nat.reduceBEq, reduceIte, Nat.reduceAdd, Nat.reduceLeDiff, Nat.reduceEqDiff, Nat.reduceSub, Nat.reduceMul, Nat.reduceDiv, SOper.again, same, sameBlk, sameCap, Nat.reduceBneDiff, s_draw2, s_pair, k_pair, asunder, SOper.into, Bool.not_false, Bool.not_true, CL, e1, hE, c1, c1', c2, i_toNat0, i_le0, i_48, Ends, gives_ret]
            exact ⟨H.bare, by simp⟩
      · have h3 : ((c : Int) == 48) = false := by simp; omega
        have h4 : (some c == some 48) = false := by simpa using h2
        simp -implicitDefEqProofs only [c16, ↓v_lenS, SB, POp.val, AOp.val, WOp.val, Lite.bin, intBin, strBin, eqv, eqMany, eq1, AV.asBool, AV.asInt, AV.asNat, AV.asPtr, AV.asStr, resVals, ResV.val, oneOr, wants, skipped, fillAt, putAt, capOf, optNat, bnd, Nat.reduceBEq, reduceIte, Nat.reduceAdd, Nat.reduceLeDiff, Nat.reduceEqDiff, Nat.reduceSub, Nat.reduceMul, Nat.reduceDiv, SOper.again, same, sameBlk, sameCap, Nat.reduceBneDiff, s_draw2, s_pair, k_pair, asunder, SOper.into, Bool.not_false, Bool.not_true, CL, e1, hE, c1, h1, h3, h4, i_toNat0, i_le0, i_48]
        exact loop _ _ rfl
    · have c1 : ((t.length + 1 : Nat) : Int) > 200 := by omega
      simp -implicitDefEqProofs only [c16, ↓v_lenS, SB, POp.val, AOp.val, WOp.val, Lite.bin, intBin, strBin, eqv, eqMany, eq1, AV.asBool, AV.asInt, AV.asNat, AV.asPtr, AV.asStr, resVals, ResV.val, oneOr, wants, skipped, fillAt, putAt, capOf, optNat, bnd, Nat.reduceBEq, reduceIte, Nat.reduceAdd, Nat.reduceLeDiff, Nat.reduceEqDiff, Nat.reduceSub, Nat.reduceMul, Nat.reduceDiv, SOper.again, same, sameBlk, sameCap, Nat.reduceBneDiff, s_draw2, s_pair, k_pair, asunder, SOper.into, Bool.not_false, Bool.not_true, CL, e1, hE, c1, h1, Ends, gives_ret]
      exact ⟨_, rfl⟩

theorem right17 (s : Str) (hs : s.length ≤ 4611686018427387904) : Ret P4 17 [.str s] (.bool (rightB s)) := by
  refine Ret.of rfl (code17 _ _) rfl rfl (fun H => by simp -implicitDefEqProofs only [↓v_lenS, SB, POp.val, AOp.val, WOp.val, Lite.bin, intBin, strBin, eqv, eqMany, eq1, AV.asBool, AV.asInt, AV.asNat, AV.asPtr, AV.asStr, resVals, ResV.val, oneOr, wants, skipped, fillAt, putAt, capOf, optNat, bnd, Nat.reduceBEq, reduceIte, Nat.reduceAdd, Nat.reduceLeDiff, Nat.reduceEqDiff, Nat.reduceSub, Nat.reduceMul, Nat.reduceDiv, SOper.again, same, sameBlk, sameCap, Nat.reduceBneDiff, s_draw2, s_pair, k_pair, asunder, SOper.into, Bool.not_false, Bool.not_true]) ((Ev.ge (s.length + 1)).mono fun n hge H => ?_)
  have loop : ∀ (t : Str) (fr : Fr) (H : Heap), t.length ≤ s.length → fr 3 = .str t → Ends (loopR (callN P4 n) n c17_l0 n (fr.set 4 (.int .i64 0)) H (blockK 0 (seqK (callN P4 n) n (((SCode.ops [SOper.mk (some 2) none (.p (.move (.lit (.bool true))))]).seq SCode.ret)) (finish [ResV.tmp 2])))) (.bool (t.all dig)) := by
    intro t fr H hl h3
    have hh := head_le t
    refine loop_rounds (headN t) (fun i fr H => fr 3 = .str t ∧ fr 4 = .int .i64 i) ?_ ?_ n 0 _ _ (by omega) (by omega) ⟨?_, ?_⟩
    · rintro i fr H K' hi ⟨h3, h4⟩ hKe hKr hK
      obtain ⟨c, hc, hd⟩ := head_dig hi
      rw [dig_iff] at hd
      have hlt : (i : Int) < (t.length : Int) := by omega
      have c1 : ¬ (c : Int) < 48 := by omega
      have c2 : ¬ (c : Int) > 57 := by omega
      have hw := wrap_succ (i := i) (n := t.length) (by omega) (by omega)
      simp -implicitDefEqProofs only [c17_l0, ↓v_lenS, SB, POp.val, AOp.val, WOp.val, Lite.bin, intBin, strBin, eqv, eqMany, eq1, AV.asBool, AV.asInt, AV.asNat, AV.asPtr, AV.asStr, resVals, ResV.val, oneOr, wants, skipped, fillAt, putAt, capOf, optNat, bnd, Nat.reduceBEq, reduceIte, Nat.reduceAdd, Nat.reduceLeDiff, Nat.reduceEqDiff, Nat.reduceSub, Nat.reduceMul, Nat.reduceDiv, SOper.again, same, sameBlk, sameCap, Nat.reduceBneDiff, s_draw2, s_pair, k_pair, asunder, SOper.into, Bool.not_false, Bool.not_true, h3, h4, hlt, hc, c1, c2, hw]
      refine hK _ _ ⟨?_, ?_⟩
      all_goals simp -implicitDefEqProofs only [↓v_lenS, SB, POp.val, AOp.val, WOp.val, Lite.bin, intBin, strBin, eqv, eqMany, eq1, AV.asBool, AV.asInt, AV.asNat, AV.asPtr, AV.asStr, resVals, ResV.val, oneOr, wants, skipped, fillAt, putAt, capOf, optNat, bnd, Nat.reduceBEq, reduceIte, Nat.reduceAdd, Nat.reduceLeDiff, Nat.reduceEqDiff, Nat.reduceSub, Nat.reduceMul, Nat.reduceDiv, SOper.again, same, sameBlk, sameCap, Nat.reduceBneDiff, s_draw2, s_pair, k_pair, asunder, SOper.into, Bool.not_false, Bool.not_true, h3]
    · rintro fr H K' ⟨h3, h4⟩ hKe hKr
      rcases head_last t with ⟨h1, h2⟩ | ⟨c, h1, h2, h3'⟩
      · rw [h1] at h4
        simp -implicitDefEqProofs only [c17_l0, ↓v_lenS, SB, POp.val, AOp.val, WOp.val, Lite.bin, intBin, strBin, eqv, eqMany, eq1, AV.asBool, AV.asInt, AV.asNat, AV.asPtr, AV.asStr, resVals, ResV.val, oneOr, wants, skipped, fillAt, putAt, capOf, optNat, bnd, Nat.reduceBEq, reduceIte, Nat.reduceAdd, Nat.reduceLeDiff, Nat.reduceEqDiff, Nat.reduceSub, Nat.reduceMul, Nat.reduceDiv, SOper.again, same, sameBlk, sameCap, Nat.reduceBneDiff, s_draw2, s_pair, k_pair, asunder, SOper.into, Bool.not_false, Bool.not_true, h3, h4, Int.lt_irrefl, hKe, k_blockE, h2, gives_ret]
        exact ⟨_, rfl⟩
      · rw [dig_not] at h2
        have hlt : (headN t : Int) < (t.length : Int) := by have := (List.getElem?_eq_some_iff.1 h1).1; omega
        by_cases c1 : (c : Int) < 48
        · simp -implicitDefEqProofs only [c17_l0, ↓v_lenS, SB, POp.val, AOp.val, WOp.val, Lite.bin, intBin, strBin, eqv, eqMany, eq1, AV.asBool, AV.asInt, AV.asNat, AV.asPtr, AV.asStr, resVals, ResV.val, oneOr, wants, skipped, fillAt, putAt, capOf, optNat, bnd, Nat.reduceBEq, reduceIte, Nat.reduceAdd, Nat.reduceLeDiff, Nat.reduceEqDiff, Nat.reduceSub, Nat.reduceMul, Nat.reduceDiv, SOper.again, same, sameBlk, sameCap, Nat.reduceBneDiff, s_draw2, s_pair, k_pair, asunder, SOper.into, Bool.not_false, Bool.not_true, h3, h4, hlt, h1, c1, hKr, h3', gives_ret]
          exact ⟨_, rfl⟩
        · have c2 : (c : Int) > 57 := by omega
          simp -implicitDefEqProofs only [c17_l0, ↓v_lenS, SB, POp.val, AOp.val, WOp.val, Lite.bin, intBin, strBin, eqv, eqMany, eq1, AV.asBool, AV.asInt, AV.asNat, AV.asPtr, AV.asStr, resVals, ResV.val, oneOr, wants, skipped, fillAt, putAt, capOf, optNat, bnd, Nat.reduceBEq, reduceIte, Nat.reduceAdd, Nat.reduceLeDiff, Nat.reduceEqDiff, Nat.reduceSub, Nat.reduceMul, Nat.reduceDiv, SOper.again, same, sameBlk, sameCap, Nat.reduceBneDiff, s_draw2, s_pair, k_pair, asunder, SOper.into, Bool.not_false, Bool.not_true, h3, h4, hlt, h1, c1, c2, hKr, h3', gives_ret]
          exact ⟨_, rfl⟩
    · simp -implicitDefEqProofs only [↓v_lenS, SB, POp.val, AOp.val, WOp.val, Lite.bin, intBin, strBin, eqv, eqMany, eq1, AV.asBool, AV.asInt, AV.asNat, AV.asPtr, AV.asStr, resVals, ResV.val, oneOr, wants, skipped, fillAt, putAt, capOf, optNat, bnd, Nat.reduceBEq, reduceIte, Nat.reduceAdd, Nat.reduceLeDiff, Nat.reduceEqDiff, Nat.reduceSub, Nat.reduceMul, Nat.reduceDiv, SOper.again, same, sameBlk, sameCap, Nat.reduceBneDiff, s_draw2, s_pair, k_pair, asunder, SOper.into, Bool.not_false, Bool.not_true, h3]
    · rfl
  unfold rightB
  cases s with
  | nil =>
    have c0 : ¬ ((0 : Nat) : Int) > 0 := by omega
    have c0' : (((0 : Nat) : Int) == 0) = true := rfl
    simp -implicitDefEqProofs only [c17, ↓v_lenS, SB, POp.val, AOp.val, WOp.val, Lite.bin, intBin, strBin, eqv, eqMany, eq1, AV.asBool, AV.asInt, AV.asNat, AV.asPtr, AV.asStr, resVals, ResV.val, oneOr, wants, skipped, fillAt, putAt, capOf, optNat, bnd, Nat.reduceBEq, reduceIte, Nat.reduceAdd, Nat.reduceLeDiff, Nat.reduceEqDiff, Nat.reduceSub, Nat.reduceMul, Nat.reduceDiv, SOper.again, same, sameBlk, sameCap, Nat.reduceBneDiff, s_draw2, s_pair, k_pair, asunder, SOper.into, Bool.not_false, Bool.not_true, c0, c0', negS, cutS, rightT, Ends, gives_ret]
    exact ⟨_, rfl⟩
  | cons a s =>
    have c0 : ((s.length + 1 : Nat) : Int) > 0 := by omega
    have c0' : (((s.length + 1 : Nat) : Int) == 0) = false := by simp; omega
    by_cases ha : a = 45
    · subst ha
      have c45 : (((45 : Nat) : Int) == 45) = true := rfl
      have h1 : 1 ≤ s.length + 1 := by omega
      have h4 : List.take (s.length + 1 - 1) s = s := List.take_of_length_le (by omega)
      have h4' : List.take s.length s = s := List.take_of_length_le (by omega)
      have i1 : ((0 : Int) ≤ 1) = True := by simp
      have i2 : Int.toNat 1 = 1 := rfl
      simp -implicitDefEqProofs only [negS, cutS, if_true, beq_self_eq_true]
      unfold rightT
      cases s with
      | nil =>
        have z1 : ((1 : Nat) : Int) > 0 := by omega
        have z2 : (((0 : Nat) : Int) == 0) = true := rfl
        simp -implicitDefEqProofs only [c17, ↓v_lenS, SB, POp.val, AOp.val, WOp.val, Lite.bin, intBin, strBin, eqv, eqMany, eq1, AV.asBool, AV.asInt, AV.asNat, AV.asPtr, AV.asStr, resVals, ResV.val, oneOr, wants, skipped, fillAt, putAt, capOf, optNat, bnd, Nat.reduceBEq, reduceIte, Nat.reduceAdd, Nat.reduceLeDiff, Nat.reduceEqDiff, Nat.reduceSub, Nat.reduceMul, Nat.reduceDiv, SOper.again, same, sameBlk, sameCap, Nat.reduceBneDiff, s_draw2, s_pair, k_pair, asunder, SOper.into, Bool.not_false, Bool.not_true, z1, z2, c45, i1, i2, i_toNat0, i_le0, Ends, gives_ret]
        exact ⟨_, rfl⟩
      | cons c t =>
        have d0 : (((t.length + 1 : Nat) : Int) == 0) = false := by simp; omega
        have h6 : List.take (t.length + 1 + 1 - 1) (c :: t) = c :: t := List.take_of_length_le (by simp)
        have g1 : ((t.length + 1 + 1 : Nat) : Int) > 1 := by omega
        have g0 : ((t.length + 1 + 1 : Nat) : Int) > 0 := by omega
        by_cases h200 : t.length + 1 ≤ 200
        · have c1 : ¬ ((t.length + 1 : Nat) : Int) > 200 := by omega
          by_cases h48 : c = 48
          · subst h48
            simp -implicitDefEqProofs only [c17, ↓v_lenS, SB, POp.val, AOp.val, WOp.val, Lite.bin, intBin, strBin, eqv, eqMany, eq1, AV.asBool, AV.asInt, AV.asNat, AV.asPtr, AV.asStr, resVals, ResV.val, oneOr, wants, skipped, fillAt, putAt, capOf, optNat, bnd, Nat.reduceBEq, reduceIte, Nat.reduceAdd, Nat.reduceLeDiff, Nat.reduceEqDiff, Nat.reduceSub, Nat.reduceMul, Nat.reduceDiv, SOper.again, same, sameBlk, sameCap, Nat.reduceBneDiff, s_draw2, s_pair, k_pair, asunder, SOper.into, Bool.not_false, Bool.not_true, g0, g1, d0, c1, c45, h1, h6, i1, i2, i_toNat0, i_le0, i_48, Ends, gives_ret]
            exact ⟨H.bare, by simp⟩
          · have h3 : ((c : Int) == 48) = false := by simp; omega
            have h5 : (some c == some 48) = false := by simpa using h48
            simp -implicitDefEqProofs only [c17, ↓v_lenS, SB, POp.val, AOp.val, WOp.val, Lite.bin, intBin, strBin, eqv, eqMany, eq1, AV.asBool, AV.asInt, AV.asNat, AV.asPtr, AV.asStr, resVals, ResV.val, oneOr, wants, skipped, fillAt, putAt, capOf, optNat, bnd, Nat.reduceBEq, reduceIte, Nat.reduceAdd, Nat.reduceLeDiff, Nat.reduceEqDiff, Nat.reduceSub, Nat.reduceMul, Nat.reduceDiv, SOper.again, same, sameBlk, sameCap, Nat.reduceBneDiff, s_draw2, s_pair, k_pair, asunder, SOper.into, Bool.not_false, Bool.not_true, g0, g1, d0, c1, c45, h1, h6, h200, h3, h5, i1, i2, i_toNat0, i_le0]
            exact loop (c :: t) _ _ (by simp) rfl
        · have c1 : ((t.length + 1 : Nat) : Int) > 200 := by omega
          simp -implicitDefEqProofs only [c17, ↓v_lenS, SB, POp.val, AOp.val, WOp.val, Lite.bin, intBin, strBin, eqv, eqMany, eq1, AV.asBool, AV.asInt, AV.asNat, AV.asPtr, AV.asStr, resVals, ResV.val, oneOr, wants, skipped, fillAt, putAt, capOf, optNat, bnd, Nat.reduceBEq, reduceIte, Nat.reduceAdd, Nat.reduceLeDiff, Nat.reduceEqDiff, Nat.reduceSub, Nat.reduceMul, Nat.reduceDiv, SOper.again, same, sameBlk, sameCap, Nat.reduceBneDiff, s_draw2, s_pair, k_pair, asunder, SOper.into, Bool.not_false, Bool.not_true, g0, g1, d0, c1, c45, h1, h6, h200, i1, i2, i_toNat0, i_le0, Ends, gives_ret]
          exact ⟨_, rfl⟩
    · have c45 : ((a : Int) == 45) = false := by simp; omega
      have hb : (a == 45) = false := by simpa using ha
      simp -implicitDefEqProofs only [negS, cutS, ha, if_false, hb]
      unfold rightT
      by_cases h200 : s.length + 1 ≤ 200
      · have c1 : ¬ ((s.length + 1 : Nat) : Int) > 200 := by omega
        by_cases h48 : a = 48
        · subst h48
          cases s with
          | nil =>
            have z1 : ((1 : Nat) : Int) > 0 := by omega
            have z2 : (((1 : Nat) : Int) == 0) = false := rfl
            have z3 : ¬ ((1 : Nat) : Int) > 200 := by omega
            have z4 : ¬ ((1 : Nat) : Int) > 1 := by omega
            simp -implicitDefEqProofs only [c17, ↓v_lenS, SB, POp.val, AOp.val, WOp.val, Lite.bin, intBin, strBin, eqv, eqMany, eq1, AV.asBool, AV.asInt, AV.asNat, AV.asPtr, AV.asStr, resVals, ResV.val, oneOr, wants, skipped, fillAt, putAt, capOf, optNat, bnd, Nat.reduceBEq, reduceIte, Nat.reduceAdd, Nat.reduceLeDiff, Nat.reduceEqDiff, Nat.reduceSub, Nat.reduceMul, Nat.reduceDiv, SOper.again, same, sameBlk, sameCap, Nat.reduceBneDiff, s_draw2, s_pair, k_pair, asunder, SOper.into, Bool.not_false, Bool.not_true, z1, z2, z3, z4, c45, i_toNat0, i_le0, i_48]
            exact loop [48] _ _ (by simp) rfl
          | cons d t =>
            have g1 : ((t.length + 1 + 1 : Nat) : Int) > 1 := by omega
            replace c0 : ((t.length + 1 + 1 : Nat) : Int) > 0 := c0
            replace c0' : (((t.length + 1 + 1 : Nat) : Int) == 0) = false := c0'
            replace c1 : ¬ ((t.length + 1 + 1 : Nat) : Int) > 200 := c1
            simp -implicitDefEqProofs only [c17, ↓v_lenS, SB, POp.val, AOp.val, WOp.val, Lite.bin, intBin, strBin, eqv, eqMany, eq1, AV.asBool, AV.asInt, AV.asNat, AV.asPtr, AV.asStr, resVals, ResV.val, oneOr, wants, skipped, fillAt, putAt, capOf, optNat, bnd, Nat.reduceBEq, reduceIte, Nat.reduceAdd, Nat.reduceLeDiff, Nat.reduceEqDiff, Nat.reduceSub, Nat.reduceMul, Nat.reduceDiv, SOper.again, same, sameBlk, sameCap, Nat.reduceBneDiff, s_draw2, s_pair, k_pair, asunder, SOper.into, Bool.not_false, Bool.not_true, c0, c0', c1, g1, c45, i_toNat0, i_le0, i_48, Ends, gives_ret]
            exact ⟨H.bare, by simp⟩
        · have h3 : ((a : Int) == 48) = false := by simp; omega
          have h5 : (some a == some 48) = false := by simpa using h48
          simp -implicitDefEqProofs only [c17, ↓v_lenS, SB, POp.val, AOp.val, WOp.val, Lite.bin, intBin, strBin, eqv, eqMany, eq1, AV.asBool, AV.asInt, AV.asNat, AV.asPtr, AV.asStr, resVals, ResV.val, oneOr, wants, skipped, fillAt, putAt, capOf, optNat, bnd, Nat.reduceBEq, reduceIte, Nat.reduceAdd, Nat.reduceLeDiff, Nat.reduceEqDiff, Nat.reduceSub, Nat.reduceMul, Nat.reduceDiv, SOper.again, same, sameBlk, sameCap, Nat.reduceBneDiff, s_draw2, s_pair, k_pair, asunder, SOper.into, Bool.not_false, Bool.not_true, c0, c0', c1, c45, h200, h3, h5, i_toNat0, i_le0]
          exact loop (a :: s) _ _ (by simp) rfl
      · have c1 : ((s.length + 1 : Nat) : Int) > 200 := by omega
        simp -implicitDefEqProofs only [c17, ↓v_lenS, SB, POp.val, AOp.val, WOp.val, Lite.bin, intBin, strBin, eqv, eqMany, eq1, AV.asBool, AV.asInt, AV.asNat, AV.asPtr, AV.asStr, resVals, ResV.val, oneOr, wants, skipped, fillAt, putAt, capOf, optNat, bnd, Nat.reduceBEq, reduceIte, Nat.reduceAdd, Nat.reduceLeDiff, Nat.reduceEqDiff, Nat.reduceSub, Nat.reduceMul, Nat.reduceDiv, SOper.again, same, sameBlk, sameCap, Nat.reduceBneDiff, s_draw2, s_pair, k_pair, asunder, SOper.into, Bool.not_false, Bool.not_true, c0, c0', c1, c45, h200, i_toNat0, i_le0, Ends, gives_ret]
        exact ⟨_, rfl⟩

end Go.Lite

/-
  A law's number's text, out of whole numbers.
-/
namespace Go.Lite
open Go Go.Proofs
set_option maxRecDepth 100000
set_option linter.unusedSimpArgs false
set_option linter.unusedVariables false

def vI (f : Bool) (l : List Int) : AV := vList f 1 (fun n => [AV.int .i64 n]) l
theorem len_vI {f : Bool} {l : List Int} : lenM (vI f l) = some (.int .i64 l.length) := len_vList
theorem shutV_vI {f : Bool} {l : List Int} {H : Heap} : shutV (vI f l) H = some (vI f l, H) := shutV_vList
theorem fl_vI {f : Bool} {l : List Int} : (vI f l).flat = true := by cases l <;> rfl
theorem iaddr_vI {f : Bool} {l : List Int} {j : Nat} {x : Int} (h : l[j]? = some x) : iaddrV 1 (vI f l) j = some (.ptr (.val [.int .i64 x]) 0) := iaddr_at (es := 1) (g := fun n => [AV.int .i64 n]) (fun _ => rfl) h
set_option linter.defProp false in
def IS := And.intro @len_vI (And.intro @shutV_vI @fl_vI)

/-- one digit -/
def numA (k : Int) : Int := within (IntKind.i64.wrap (k.tdiv 10)) 4
def numB (k : Int) : Int := within (IntKind.i64.wrap (k.tdiv 40)) 2
def numC (k : Int) : Int := within k 10
def numD (k : Int) : Nat := if numA k = 0 then 9 * (numB k).toNat else (numC k).toNat

theorem numD_lt (k : Int) : numD k < 10 := by
  have h1 := within_range (IntKind.i64.wrap (k.tdiv 40)) (b := 2) (by omega) (by omega)
  have h2 := within_range k (b := 10) (by omega) (by omega)
  unfold numD numB numC
  split <;> omega

/-- the digits -/
def numS (most : Nat) : List Int → Str → Str
  | [], s => s
  | k :: ks, s => if s.length < most then (if s = [] ∧ numD k = 0 then numS most ks s else numS most ks (s ++ [48 + numD k])) else s

theorem numS_stop {most : Nat} {s : Str} (h : ¬ s.length < most) (ks : List Int) : numS most ks s = s := by
  cases ks with
  | nil => rfl
  | cons k ks => rw [numS, if_neg h]

/-- digits without a nought ahead -/
def Lead (s : Str) : Prop := Digs s ∧ s[0]? ≠ some 48

theorem Lead.nil : Lead [] := ⟨.nil, by simp⟩
theorem Lead.more {s : Str} {d : Nat} (h : Lead s) (hd : d < 10) (h0 : ¬ (s = [] ∧ d = 0)) : Lead (s ++ [48 + d]) := by
  refine ⟨h.1.append (.one hd), ?_⟩
  cases s with
  | nil => simp at h0 ⊢; omega
  | cons c s => simpa using h.2

theorem numS_lead {most : Nat} : ∀ (ks : List Int) (s : Str), Lead s → s.length ≤ most → Lead (numS most ks s) ∧ (numS most ks s).length ≤ most
  | [], s, h, hl => ⟨h, hl⟩
  | k :: ks, s, h, hl => by
    rw [numS]
    split
    · rename_i hlt
      split
      · exact numS_lead ks s h hl
      · rename_i h0
        exact numS_lead ks _ (h.more (numD_lt k) h0) (by simp; omega)
    · exact ⟨h, hl⟩

/-- the number -/
def numZ (ks : List Int) (most : Nat) (neg : Bool) : Int := if neg then -(dval (numS most ks []) : Int) else (dval (numS most ks []) : Int)

theorem lead_pos {s : Str} (h : Lead s) (hne : s ≠ []) : 0 < dval s := by
  rcases Nat.eq_zero_or_pos (dval s) with h0 | h0
  · exfalso
    have h1 := decN_of h.1 hne h.2
    rw [h0, decN_small (by omega)] at h1
    exact h.2 (by rw [← h1]; rfl)
  · exact h0

theorem numZ_text (ks : List Int) (most : Nat) (neg : Bool) : decZ (numZ ks most neg) = if numS most ks [] = [] then [48] else if neg then 45 :: numS most ks [] else numS most ks [] := by
  have h := (numS_lead (most := most) ks [] .nil (by simp)).1
  unfold numZ
  generalize numS most ks [] = s at *
  by_cases hne : s = []
  · subst hne
    rw [if_pos rfl, dval_nil]
    cases neg <;> simp [decZ, decN_small]
  · rw [if_neg hne]
    have h1 := decN_of h.1 hne h.2
    cases neg with
    | true => simp only [if_true]; rw [decZ_neg (lead_pos h hne), h1]
    | false => simp only [Bool.false_eq_true, if_false]; rw [decZ_nonneg, h1]

theorem numZ_lt (ks : List Int) (most : Nat) (neg : Bool) : (numZ ks most neg).natAbs < 10 ^ most := by
  have h := numS_lead (most := most) ks [] .nil (by simp)
  have h1 := dval_lt h.1.1
  have h2 : 10 ^ (numS most ks []).length ≤ 10 ^ most := Nat.pow_le_pow_right (by omega) h.2
  unfold numZ
  split <;> omega

theorem num14 (f : Bool) (ks : List Int) (most : Nat) (neg : Bool) (hks : ks.length ≤ 9223372036854775807) (hm : most ≤ 1000000) : Ret P4 14 [vI f ks, .int .i64 (most : Int), .bool neg] (.str (decZ (numZ ks most neg))) := by
  refine Ret.of rfl (code14 _ _) rfl rfl (fun H => by simp -implicitDefEqProofs only [↓v_lenS, SB, POp.val, AOp.val, WOp.val, Lite.bin, intBin, strBin, eqv, eqMany, eq1, AV.asBool, AV.asInt, AV.asNat, AV.asPtr, AV.asStr, resVals, ResV.val, oneOr, wants, skipped, fillAt, putAt, capOf, optNat, bnd, Nat.reduceBEq, reduceIte, Nat.reduceAdd, Nat.reduceLeDiff, Nat.reduceEqDiff, Nat.reduceSub, Nat.reduceMul, Nat.reduceDiv, SOper.again, same, sameBlk, sameCap, Nat.reduceBneDiff, s_draw2, s_pair, k_pair, asunder, SOper.into, Bool.not_false, Bool.not_true, shutV_vI]) ?_
  refine ((Ev.all ks fun k hk => ((within15 k 10 (by omega)).and ((within15 (IntKind.i64.wrap (k.tdiv 10)) 4 (by omega)).and (within15 (IntKind.i64.wrap (k.tdiv 40)) 2 (by omega))))).and (Ev.ge (ks.length + 1))).mono fun n e H => ?_
  obtain ⟨ih, hge⟩ := e
  rw [numZ_text]
  simp -implicitDefEqProofs only [c14, ↓v_lenS, SB, POp.val, AOp.val, WOp.val, Lite.bin, intBin, strBin, eqv, eqMany, eq1, AV.asBool, AV.asInt, AV.asNat, AV.asPtr, AV.asStr, resVals, ResV.val, oneOr, wants, skipped, fillAt, putAt, capOf, optNat, bnd, Nat.reduceBEq, reduceIte, Nat.reduceAdd, Nat.reduceLeDiff, Nat.reduceEqDiff, Nat.reduceSub, Nat.reduceMul, Nat.reduceDiv, SOper.again, same, sameBlk, sameCap, Nat.reduceBneDiff, s_draw2, s_pair, k_pair, asunder, SOper.into, Bool.not_false, Bool.not_true]
  refine loop_gen (fun e fr H => e = .exit 0 ∧ ∃ s, fr 7 = .str s ∧ fr 2 = .bool neg ∧ s.length ≤ most ∧ numS most ks [] = s) ?_ fun KK fin => ?_
  · rintro e fr H ⟨rfl, s, h7, h2, hl, hs⟩
    rw [hs]
    cases s with
    | nil =>
      simp -implicitDefEqProofs only [↓v_lenS, SB, POp.val, AOp.val, WOp.val, Lite.bin, intBin, strBin, eqv, eqMany, eq1, AV.asBool, AV.asInt, AV.asNat, AV.asPtr, AV.asStr, resVals, ResV.val, oneOr, wants, skipped, fillAt, putAt, capOf, optNat, bnd, Nat.reduceBEq, reduceIte, Nat.reduceAdd, Nat.reduceLeDiff, Nat.reduceEqDiff, Nat.reduceSub, Nat.reduceMul, Nat.reduceDiv, SOper.again, same, sameBlk, sameCap, Nat.reduceBneDiff, s_draw2, s_pair, k_pair, asunder, SOper.into, Bool.not_false, Bool.not_true, k_blockE, h7, h2, Ends, gives_ret]
      exact ⟨_, rfl⟩
    | cons c s =>
      have hE : ((c :: s) == ([] : List Nat)) = false := rfl
      have hE' : (c :: s = []) = False := by simp
      have hl' : 1 + (s.length + 1) ≤ 4611686018427387904 := by simp at hl; omega
      have hl2 : 0 + 1 + (s.length + 1) ≤ 4611686018427387904 := by simp at hl; omega
      cases neg with
      | true =>
        simp -implicitDefEqProofs only [↓v_lenS, SB, POp.val, AOp.val, WOp.val, Lite.bin, intBin, strBin, eqv, eqMany, eq1, AV.asBool, AV.asInt, AV.asNat, AV.asPtr, AV.asStr, resVals, ResV.val, oneOr, wants, skipped, fillAt, putAt, capOf, optNat, bnd, Nat.reduceBEq, reduceIte, Nat.reduceAdd, Nat.reduceLeDiff, Nat.reduceEqDiff, Nat.reduceSub, Nat.reduceMul, Nat.reduceDiv, SOper.again, same, sameBlk, sameCap, Nat.reduceBneDiff, s_draw2, s_pair, k_pair, asunder, SOper.into, Bool.not_false, Bool.not_true, k_blockE, h7, h2, hE, hE', hl', hl2, Ends, gives_ret]
        exact ⟨_, rfl⟩
      | false =>
        simp -implicitDefEqProofs only [↓v_lenS, SB, POp.val, AOp.val, WOp.val, Lite.bin, intBin, strBin, eqv, eqMany, eq1, AV.asBool, AV.asInt, AV.asNat, AV.asPtr, AV.asStr, resVals, ResV.val, oneOr, wants, skipped, fillAt, putAt, capOf, optNat, bnd, Nat.reduceBEq, reduceIte, Nat.reduceAdd, Nat.reduceLeDiff, Nat.reduceEqDiff, Nat.reduceSub, Nat.reduceMul, Nat.reduceDiv, SOper.again, same, sameBlk, sameCap, Nat.reduceBneDiff, s_draw2, s_pair, k_pair, asunder, SOper.into, Bool.not_false, Bool.not_true, k_blockE, h7, h2, hE, hE', Ends, gives_ret, Bool.false_eq_true, if_false]
        exact ⟨_, rfl⟩
  refine loop_rounds ks.length (fun i fr H => fr 0 = vI f ks ∧ fr 1 = .int .i64 (most : Int) ∧ fr 2 = .bool neg ∧ fr 8 = .int .i64 i ∧ ∃ s, fr 7 = .str s ∧ s.length ≤ most ∧ numS most (ks.drop i) s = numS most ks []) ?_ ?_ n 0 _ _ (by omega) (by omega) ?_
  · rintro i fr H K' hi ⟨h0, h1, h2, h8, s, h7, hl, hs⟩ hKe hKr hK
    obtain ⟨k, hk⟩ : ∃ k, ks[i]? = some k := ⟨ks[i], List.getElem?_eq_getElem hi⟩
    obtain ⟨e1, e2, e3⟩ := ih k (List.mem_of_getElem? hk)
    have hdr : ks.drop i = k :: ks.drop (i + 1) := by rw [List.drop_eq_getElem_cons hi]; rw [List.getElem?_eq_getElem hi] at hk; simp at hk; rw [hk]
    have hlt : (i : Int) < (ks.length : Int) := by omega
    by_cases hst : s.length < most
    · have hst' : (s.length : Int) < (most : Int) := by omega
      have hw := wrap_succ (i := i) (n := ks.length) hi (by omega)
      rw [hdr, numS, if_pos hst] at hs
      have hd := numD_lt k
      have hA : numA k = within (IntKind.i64.wrap (k.tdiv 10)) 4 := rfl
      have hB : numB k = within (IntKind.i64.wrap (k.tdiv 40)) 2 := rfl
      have hC : numC k = within k 10 := rfl
      have hBr := within_range (IntKind.i64.wrap (k.tdiv 40)) (b := 2) (by omega) (by omega)
      have hCr := within_range k (b := 10) (by omega) (by omega)
      rw [← hC] at e1 hCr; rw [← hA] at e2; rw [← hB] at e3 hBr
      have q1 : ((10 : Int) == 0) = false := rfl
      have q2 : ((40 : Int) == 0) = false := rfl
      have q3 : ¬ (10 : Int) = 0 := by omega
      have q4 : ¬ (40 : Int) = 0 := by omega
      have hlen : s.length + 1 ≤ 4611686018427387904 := by omega
      have hnext : numS most (ks.drop (i + 1)) (if s = [] ∧ numD k = 0 then s else s ++ [48 + numD k]) = numS most ks [] := by
        rw [← hs]; split <;> rfl
      have hnl : (if s = [] ∧ numD k = 0 then s else s ++ [48 + numD k]).length ≤ most := by
        split
        · exact hl
        · simp; omega
      by_cases ha : numA k = 0
      · have hv : IntKind.i64.wrap (9 * numB k) = (numD k : Int) := by
          rw [numD, if_pos ha, wrap64 (by omega) (by omega)]; omega
        have ha' : (numA k == 0) = true := by simpa using ha
        have hv2 : ∀ d, d = numD k → IntKind.i64.wrap (9 * numB k) = (d : Int) := fun d e => by rw [e]; exact hv
        cases hE : (s == ([] : List Nat)) with
        | true =>
          have hsn : s = [] := by simpa using hE
          by_cases h00 : numD k = 0
          · have hz : ((numD k : Int) == 0) = true := by simp [h00]
            rw [if_pos ⟨hsn, h00⟩] at hnext
            simp -implicitDefEqProofs only [c14_l0, ↓v_lenS, SB, POp.val, AOp.val, WOp.val, Lite.bin, intBin, strBin, eqv, eqMany, eq1, AV.asBool, AV.asInt, AV.asNat, AV.asPtr, AV.asStr, resVals, ResV.val, oneOr, wants, skipped, fillAt, putAt, capOf, optNat, bnd, Nat.reduceBEq, reduceIte, Nat.reduceAdd, Nat.reduceLeDiff, Nat.reduceEqDiff, Nat.reduceSub, Nat.reduceMul, Nat.reduceDiv, SOper.again, same, sameBlk, sameCap, Nat.reduceBneDiff, s_draw2, s_pair, k_pair, asunder, SOper.into, Bool.not_false, Bool.not_true, CL, IS, k_blockE, iaddr_vI hk, h0, h1, h7, h8, hlt, hst', e1, e2, e3, q1, q2, q3, q4, ha', hv, hw, hE, hz]
            refine hK _ _ ⟨?_, ?_, ?_, ?_, s, ?_, hl, hnext⟩
            all_goals simp -implicitDefEqProofs only [↓v_lenS, SB, POp.val, AOp.val, WOp.val, Lite.bin, intBin, strBin, eqv, eqMany, eq1, AV.asBool, AV.asInt, AV.asNat, AV.asPtr, AV.asStr, resVals, ResV.val, oneOr, wants, skipped, fillAt, putAt, capOf, optNat, bnd, Nat.reduceBEq, reduceIte, Nat.reduceAdd, Nat.reduceLeDiff, Nat.reduceEqDiff, Nat.reduceSub, Nat.reduceMul, Nat.reduceDiv, SOper.again, same, sameBlk, sameCap, Nat.reduceBneDiff, s_draw2, s_pair, k_pair, asunder, SOper.into, Bool.not_false, Bool.not_true, h0, h1, h2, h7]
          · have hz : ((numD k : Int) == 0) = false := by simpa using h00
            rw [if_neg (fun h => h00 h.2)] at hnext hnl
            simp -implicitDefEqProofs only [c14_l0, ↓v_lenS, SB, POp.val, AOp.val, WOp.val, Lite.bin, intBin, strBin, eqv, eqMany, eq1, AV.asBool, AV.asInt, AV.asNat, AV.asPtr, AV.asStr, resVals, ResV.val, oneOr, wants, skipped, fillAt, putAt, capOf, optNat, bnd, Nat.reduceBEq, reduceIte, Nat.reduceAdd, Nat.reduceLeDiff, Nat.reduceEqDiff, Nat.reduceSub, Nat.reduceMul, Nat.reduceDiv, SOper.again, same, sameBlk, sameCap, Nat.reduceBneDiff, s_draw2, s_pair, k_pair, asunder, SOper.into, Bool.not_false, Bool.not_true, CL, IS, k_blockE, iaddr_vI hk, h0, h1, h7, h8, hlt, hst', e1, e2, e3, q1, q2, q3, q4, ha', hv, hw, hE, hz, digit_wrap hd, digit_byte hd, digit_bytes hd, strOfBytes, hlen]
            refine hK _ _ ⟨?_, ?_, ?_, ?_, s ++ [48 + numD k], ?_, hnl, hnext⟩
            all_goals simp -implicitDefEqProofs only [↓v_lenS, SB, POp.val, AOp.val, WOp.val, Lite.bin, intBin, strBin, eqv, eqMany, eq1, AV.asBool, AV.asInt, AV.asNat, AV.asPtr, AV.asStr, resVals, ResV.val, oneOr, wants, skipped, fillAt, putAt, capOf, optNat, bnd, Nat.reduceBEq, reduceIte, Nat.reduceAdd, Nat.reduceLeDiff, Nat.reduceEqDiff, Nat.reduceSub, Nat.reduceMul, Nat.reduceDiv, SOper.again, same, sameBlk, sameCap, Nat.reduceBneDiff, s_draw2, s_pair, k_pair, asunder, SOper.into, Bool.not_false, Bool.not_true, h0, h1, h2, h7]
        | false =>
          have hsn : ¬ s = [] := by simpa using hE
          rw [if_neg (fun h => hsn h.1)] at hnext hnl
          simp -implicitDefEqProofs only [c14_l0, ↓v_lenS, SB, POp.val, AOp.val, WOp.val, Lite.bin, intBin, strBin, eqv, eqMany, eq1, AV.asBool, AV.asInt, AV.asNat, AV.asPtr, AV.asStr, resVals, ResV.val, oneOr, wants, skipped, fillAt, putAt, capOf, optNat, bnd, Nat.reduceBEq, reduceIte, Nat.reduceAdd, Nat.reduceLeDiff, Nat.reduceEqDiff, Nat.reduceSub, Nat.reduceMul, Nat.reduceDiv, SOper.again, same, sameBlk, sameCap, Nat.reduceBneDiff, s_draw2, s_pair, k_pair, asunder, SOper.into, Bool.not_false, Bool.not_true, CL, IS, k_blockE, iaddr_vI hk, h0, h1, h7, h8, hlt, hst', e1, e2, e3, q1, q2, q3, q4, ha', hv, hw, hE, digit_wrap hd, digit_byte hd, digit_bytes hd, strOfBytes, hlen]
          refine hK _ _ ⟨?_, ?_, ?_, ?_, s ++ [48 + numD k], ?_, hnl, hnext⟩
          all_goals simp -implicitDefEqProofs only [↓v_lenS, SB, POp.val, AOp.val, WOp.val, Lite.bin, intBin, strBin, eqv, eqMany, eq1, AV.asBool, AV.asInt, AV.asNat, AV.asPtr, AV.asStr, resVals, ResV.val, oneOr, wants, skipped, fillAt, putAt, capOf, optNat, bnd, Nat.reduceBEq, reduceIte, Nat.reduceAdd, Nat.reduceLeDiff, Nat.reduceEqDiff, Nat.reduceSub, Nat.reduceMul, Nat.reduceDiv, SOper.again, same, sameBlk, sameCap, Nat.reduceBneDiff, s_draw2, s_pair, k_pair, asunder, SOper.into, Bool.not_false, Bool.not_true, h0, h1, h2, h7]
      · have hv : numC k = (numD k : Int) := by rw [numD, if_neg ha]; omega
        have ha' : (numA k == 0) = false := by simpa using ha
        cases hE : (s == ([] : List Nat)) with
        | true =>
          have hsn : s = [] := by simpa using hE
          by_cases h00 : numD k = 0
          · have hz : ((numD k : Int) == 0) = true := by simp [h00]
            rw [if_pos ⟨hsn, h00⟩] at hnext
            simp -implicitDefEqProofs only [c14_l0, ↓v_lenS, SB, POp.val, AOp.val, WOp.val, Lite.bin, intBin, strBin, eqv, eqMany, eq1, AV.asBool, AV.asInt, AV.asNat, AV.asPtr, AV.asStr, resVals, ResV.val, oneOr, wants, skipped, fillAt, putAt, capOf, optNat, bnd, Nat.reduceBEq, reduceIte, Nat.reduceAdd, Nat.reduceLeDiff, Nat.reduceEqDiff, Nat.reduceSub, Nat.reduceMul, Nat.reduceDiv, SOper.again, same, sameBlk, sameCap, Nat.reduceBneDiff, s_draw2, s_pair, k_pair, asunder, SOper.into, Bool.not_false, Bool.not_true, CL, IS, k_blockE, iaddr_vI hk, h0, h1, h7, h8, hlt, hst', e1, e2, e3, q1, q2, q3, q4, ha', hv, hw, hE, hz]
            refine hK _ _ ⟨?_, ?_, ?_, ?_, s, ?_, hl, hnext⟩
            all_goals simp -implicitDefEqProofs only [↓v_lenS, SB, POp.val, AOp.val, WOp.val, Lite.bin, intBin, strBin, eqv, eqMany, eq1, AV.asBool, AV.asInt, AV.asNat, AV.asPtr, AV.asStr, resVals, ResV.val, oneOr, wants, skipped, fillAt, putAt, capOf, optNat, bnd, Nat.reduceBEq, reduceIte, Nat.reduceAdd, Nat.reduceLeDiff, Nat.reduceEqDiff, Nat.reduceSub, Nat.reduceMul, Nat.reduceDiv, SOper.again, same, sameBlk, sameCap, Nat.reduceBneDiff, s_draw2, s_pair, k_pair, asunder, SOper.into, Bool.not_false, Bool.not_true, h0, h1, h2, h7]
          · have hz : ((numD k : Int) == 0) = false := by simpa using h00
            rw [if_neg (fun h => h00 h.2)] at hnext hnl
            simp -implicitDefEqProofs only [c14_l0, ↓v_lenS, SB, POp.val, AOp.val, WOp.val, Lite.bin, intBin, strBin, eqv, eqMany, eq1, AV.asBool, AV.asInt, AV.asNat, AV.asPtr, AV.asStr, resVals, ResV.val, oneOr, wants, skipped, fillAt, putAt, capOf, optNat, bnd, Nat.reduceBEq, reduceIte, Nat.reduceAdd, Nat.reduceLeDiff, Nat.reduceEqDiff, Nat.reduceSub, Nat.reduceMul, Nat.reduceDiv, SOper.again, same, sameBlk, sameCap, Nat.reduceBneDiff, s_draw2, s_pair, k_pair, asunder, SOper.into, Bool.not_false, Bool.not_true, CL, IS, k_blockE, iaddr_vI hk, h0, h1, h7, h8, hlt, hst', e1, e2, e3, q1, q2, q3, q4, ha', hv, hw, hE, hz, digit_wrap hd, digit_byte hd, digit_bytes hd, strOfBytes, hlen]
            refine hK _ _ ⟨?_, ?_, ?_, ?_, s ++ [48 + numD k], ?_, hnl, hnext⟩
            all_goals simp -implicitDefEqProofs only [↓v_lenS, SB, POp.val, AOp.val, WOp.val, Lite.bin, intBin, strBin, eqv, eqMany, eq1, AV.asBool, AV.asInt, AV.asNat, AV.asPtr, AV.asStr, resVals, ResV.val, oneOr, wants, skipped, fillAt, putAt, capOf, optNat, bnd, Nat.reduceBEq, reduceIte, Nat.reduceAdd, Nat.reduceLeDiff, Nat.reduceEqDiff, Nat.reduceSub, Nat.reduceMul, Nat.reduceDiv, SOper.again, same, sameBlk, sameCap, Nat.reduceBneDiff, s_draw2, s_pair, k_pair, asunder, SOper.into, Bool.not_false, Bool.not_true, h0, h1, h2, h7]
        | false =>
          have hsn : ¬ s = [] := by simpa using hE
          rw [if_neg (fun h => hsn h.1)] at hnext hnl
          simp -implicitDefEqProofs only [c14_l0, ↓v_lenS, SB, POp.val, AOp.val, WOp.val, Lite.bin, intBin, strBin, eqv, eqMany, eq1, AV.asBool, AV.asInt, AV.asNat, AV.asPtr, AV.asStr, resVals, ResV.val, oneOr, wants, skipped, fillAt, putAt, capOf, optNat, bnd, Nat.reduceBEq, reduceIte, Nat.reduceAdd, Nat.reduceLeDiff, Nat.reduceEqDiff, Nat.reduceSub, Nat.reduceMul, Nat.reduceDiv, SOper.again, same, sameBlk, sameCap, Nat.reduceBneDiff, s_draw2, s_pair, k_pair, asunder, SOper.into, Bool.not_false, Bool.not_true, CL, IS, k_blockE, iaddr_vI hk, h0, h1, h7, h8, hlt, hst', e1, e2, e3, q1, q2, q3, q4, ha', hv, hw, hE, digit_wrap hd, digit_byte hd, digit_bytes hd, strOfBytes, hlen]
          refine hK _ _ ⟨?_, ?_, ?_, ?_, s ++ [48 + numD k], ?_, hnl, hnext⟩
          all_goals simp -implicitDefEqProofs only [↓v_lenS, SB, POp.val, AOp.val, WOp.val, Lite.bin, intBin, strBin, eqv, eqMany, eq1, AV.asBool, AV.asInt, AV.asNat, AV.asPtr, AV.asStr, resVals, ResV.val, oneOr, wants, skipped, fillAt, putAt, capOf, optNat, bnd, Nat.reduceBEq, reduceIte, Nat.reduceAdd, Nat.reduceLeDiff, Nat.reduceEqDiff, Nat.reduceSub, Nat.reduceMul, Nat.reduceDiv, SOper.again, same, sameBlk, sameCap, Nat.reduceBneDiff, s_draw2, s_pair, k_pair, asunder, SOper.into, Bool.not_false, Bool.not_true, h0, h1, h2, h7]
    · have hst' : ¬ (s.length : Int) < (most : Int) := by omega
      rw [numS_stop hst] at hs
      simp -implicitDefEqProofs only [c14_l0, ↓v_lenS, SB, POp.val, AOp.val, WOp.val, Lite.bin, intBin, strBin, eqv, eqMany, eq1, AV.asBool, AV.asInt, AV.asNat, AV.asPtr, AV.asStr, resVals, ResV.val, oneOr, wants, skipped, fillAt, putAt, capOf, optNat, bnd, Nat.reduceBEq, reduceIte, Nat.reduceAdd, Nat.reduceLeDiff, Nat.reduceEqDiff, Nat.reduceSub, Nat.reduceMul, Nat.reduceDiv, SOper.again, same, sameBlk, sameCap, Nat.reduceBneDiff, s_draw2, s_pair, k_pair, asunder, SOper.into, Bool.not_false, Bool.not_true, IS, h0, h1, h7, h8, hlt, hst', hKe]
      refine fin _ _ _ ⟨rfl, s, ?_, ?_, hl, hs.symm⟩
      all_goals simp -implicitDefEqProofs only [↓v_lenS, SB, POp.val, AOp.val, WOp.val, Lite.bin, intBin, strBin, eqv, eqMany, eq1, AV.asBool, AV.asInt, AV.asNat, AV.asPtr, AV.asStr, resVals, ResV.val, oneOr, wants, skipped, fillAt, putAt, capOf, optNat, bnd, Nat.reduceBEq, reduceIte, Nat.reduceAdd, Nat.reduceLeDiff, Nat.reduceEqDiff, Nat.reduceSub, Nat.reduceMul, Nat.reduceDiv, SOper.again, same, sameBlk, sameCap, Nat.reduceBneDiff, s_draw2, s_pair, k_pair, asunder, SOper.into, Bool.not_false, Bool.not_true, h7, h2]
  · rintro fr H K' ⟨h0, h1, h2, h8, s, h7, hl, hs⟩ hKe hKr
    rw [List.drop_length, numS] at hs
    simp -implicitDefEqProofs only [c14_l0, ↓v_lenS, SB, POp.val, AOp.val, WOp.val, Lite.bin, intBin, strBin, eqv, eqMany, eq1, AV.asBool, AV.asInt, AV.asNat, AV.asPtr, AV.asStr, resVals, ResV.val, oneOr, wants, skipped, fillAt, putAt, capOf, optNat, bnd, Nat.reduceBEq, reduceIte, Nat.reduceAdd, Nat.reduceLeDiff, Nat.reduceEqDiff, Nat.reduceSub, Nat.reduceMul, Nat.reduceDiv, SOper.again, same, sameBlk, sameCap, Nat.reduceBneDiff, s_draw2, s_pair, k_pair, asunder, SOper.into, Bool.not_false, Bool.not_true, IS, h0, h1, h7, h8, Int.lt_irrefl, hKe]
    refine fin _ _ _ ⟨rfl, s, ?_, ?_, hl, hs.symm⟩
    all_goals simp -implicitDefEqProofs only [↓v_lenS, SB, POp.val, AOp.val, WOp.val, Lite.bin, intBin, strBin, eqv, eqMany, eq1, AV.asBool, AV.asInt, AV.asNat, AV.asPtr, AV.asStr, resVals, ResV.val, oneOr, wants, skipped, fillAt, putAt, capOf, optNat, bnd, Nat.reduceBEq, reduceIte, Nat.reduceAdd, Nat.reduceLeDiff, Nat.reduceEqDiff, Nat.reduceSub, Nat.reduceMul, Nat.reduceDiv, SOper.again, same, sameBlk, sameCap, Nat.reduceBneDiff, s_draw2, s_pair, k_pair, asunder, SOper.into, Bool.not_false, Bool.not_true, h7, h2]
  · refine ⟨?_, ?_, ?_, ?_, [], ?_, by simp, rfl⟩
    all_goals simp -implicitDefEqProofs only [↓v_lenS, SB, POp.val, AOp.val, WOp.val, Lite.bin, intBin, strBin, eqv, eqMany, eq1, AV.asBool, AV.asInt, AV.asNat, AV.asPtr, AV.asStr, resVals, ResV.val, oneOr, wants, skipped, fillAt, putAt, capOf, optNat, bnd, Nat.reduceBEq, reduceIte, Nat.reduceAdd, Nat.reduceLeDiff, Nat.reduceEqDiff, Nat.reduceSub, Nat.reduceMul, Nat.reduceDiv, SOper.again, same, sameBlk, sameCap, Nat.reduceBneDiff, s_draw2, s_pair, k_pair, asunder, SOper.into, Bool.not_false, Bool.not_true]
    all_goals rfl

end Go.Lite

/-
  The program's rows of limbs: a limb, a row without noughts, sums.
-/
namespace Go.Lite
open Go Go.Proofs
set_option maxRecDepth 100000
set_option linter.unusedSimpArgs false
set_option linter.unusedVariables false

theorem nats_still (l : List Nat) : Still (l.flatMap nat1) := Still.flat nat1_still l
theorem nats_len (l : List Nat) : (l.flatMap nat1).length = l.length := by rw [flat_len nat1_len, Nat.mul_one]
theorem nats_snoc (l : List Nat) (d : Nat) : (l ++ [d]).flatMap nat1 = l.flatMap nat1 ++ [.int .i64 (d : Int)] := by simp [nat1]

/-- one more number behind a growing list -/
theorem nat_more {N n : Nat} {H : Heap} {out : List Nat} {v : AV} (acc : Acc N H 3 1 n (out.flatMap nat1) v) (low : HLow H) (hN : N ≤ H.n) (d : Nat) (hb : n ≤ 1000000) (ho : out.length = n) :
    ∃ H', appendOf 3 1 8 (H.push (.row [.int .i64 (d : Int)] 0 true none)) v (1, [.int .i64 (d : Int)]) = some (.slice (.new (H.n + 1)) 0 (n + 1) (.gro 1), H') ∧
      Acc N H' 3 1 (n + 1) ((out ++ [d]).flatMap nat1) (.slice (.new (H.n + 1)) 0 (n + 1) (.gro 1)) ∧ HLow H' ∧ H.n ≤ H'.n ∧
      ∀ j cs fz tt, H.t.get j = some (.row cs 0 fz tt) → H'.t.get j = some (.row cs 0 fz tt) := by
  obtain ⟨H7, happ, acc7, kp7, low7, hn7⟩ := (acc.push low (ob := .row [.int .i64 (d : Int)] 0 true none)).one_more (e := 3) (bs := 8) (ys := [.int .i64 (d : Int)]) (by simp only [h_n]; omega) low.push (by decide) rfl rfl (by omega)
  simp only [h_n] at happ acc7 hn7
  exact ⟨H7, happ, by rw [nats_snoc]; exact acc7, low7, by omega, fun j cs fz tt hj => (acc.push low).row (by decide) kp7 (by rw [h_get, if_neg (by have := low j _ hj; omega)]; exact hj)⟩

theorem at34 (f : Bool) (l : List Nat) (i : Nat) : Ret P4 34 [vN f l, .int .i64 (i : Int)] (.int .i64 (atN l i : Nat)) := by
  refine Ret.of rfl (code34 _ _) rfl rfl (fun H => by simp -implicitDefEqProofs only [↓v_lenS, SB, POp.val, AOp.val, WOp.val, Lite.bin, intBin, strBin, eqv, eqMany, eq1, AV.asBool, AV.asInt, AV.asNat, AV.asPtr, AV.asStr, resVals, ResV.val, oneOr, wants, skipped, fillAt, putAt, capOf, optNat, bnd, Nat.reduceBEq, reduceIte, Nat.reduceAdd, Nat.reduceLeDiff, Nat.reduceEqDiff, Nat.reduceSub, Nat.reduceMul, Nat.reduceDiv, SOper.again, same, sameBlk, sameCap, Nat.reduceBneDiff, s_draw2, s_pair, k_pair, asunder, SOper.into, Bool.not_false, Bool.not_true, BS]) (Ev.of fun n H => ?_)
  by_cases hi : i < l.length
  · have hlt : (i : Int) < (l.length : Int) := by omega
    simp -implicitDefEqProofs only [c34, ↓v_lenS, SB, POp.val, AOp.val, WOp.val, Lite.bin, intBin, strBin, eqv, eqMany, eq1, AV.asBool, AV.asInt, AV.asNat, AV.asPtr, AV.asStr, resVals, ResV.val, oneOr, wants, skipped, fillAt, putAt, capOf, optNat, bnd, Nat.reduceBEq, reduceIte, Nat.reduceAdd, Nat.reduceLeDiff, Nat.reduceEqDiff, Nat.reduceSub, Nat.reduceMul, Nat.reduceDiv, SOper.again, same, sameBlk, sameCap, Nat.reduceBneDiff, s_draw2, s_pair, k_pair, asunder, SOper.into, Bool.not_false, Bool.not_true, BS, hlt, iaddr_vN (atN_at hi), Ends, gives_ret]
    exact ⟨_, rfl⟩
  · have hlt : ¬ (i : Int) < (l.length : Int) := by omega
    rw [atN_ge (by omega)]
    simp -implicitDefEqProofs only [c34, ↓v_lenS, SB, POp.val, AOp.val, WOp.val, Lite.bin, intBin, strBin, eqv, eqMany, eq1, AV.asBool, AV.asInt, AV.asNat, AV.asPtr, AV.asStr, resVals, ResV.val, oneOr, wants, skipped, fillAt, putAt, capOf, optNat, bnd, Nat.reduceBEq, reduceIte, Nat.reduceAdd, Nat.reduceLeDiff, Nat.reduceEqDiff, Nat.reduceSub, Nat.reduceMul, Nat.reduceDiv, SOper.again, same, sameBlk, sameCap, Nat.reduceBneDiff, s_draw2, s_pair, k_pair, asunder, SOper.into, Bool.not_false, Bool.not_true, BS, hlt, Ends, gives_ret]
    exact ⟨_, rfl⟩

theorem sign53 (z : Int) : Ret P4 53 [.int .i64 z] (.int .i64 (sgn z)) := by
  refine Ret.of rfl (code53 _ _) rfl rfl (fun H => by simp -implicitDefEqProofs only [↓v_lenS, SB, POp.val, AOp.val, WOp.val, Lite.bin, intBin, strBin, eqv, eqMany, eq1, AV.asBool, AV.asInt, AV.asNat, AV.asPtr, AV.asStr, resVals, ResV.val, oneOr, wants, skipped, fillAt, putAt, capOf, optNat, bnd, Nat.reduceBEq, reduceIte, Nat.reduceAdd, Nat.reduceLeDiff, Nat.reduceEqDiff, Nat.reduceSub, Nat.reduceMul, Nat.reduceDiv, SOper.again, same, sameBlk, sameCap, Nat.reduceBneDiff, s_draw2, s_pair, k_pair, asunder, SOper.into, Bool.not_false, Bool.not_true, BS]) (Ev.of fun n H => ?_)
  unfold sgn
  by_cases h1 : z < 0
  · simp -implicitDefEqProofs only [c53, ↓v_lenS, SB, POp.val, AOp.val, WOp.val, Lite.bin, intBin, strBin, eqv, eqMany, eq1, AV.asBool, AV.asInt, AV.asNat, AV.asPtr, AV.asStr, resVals, ResV.val, oneOr, wants, skipped, fillAt, putAt, capOf, optNat, bnd, Nat.reduceBEq, reduceIte, Nat.reduceAdd, Nat.reduceLeDiff, Nat.reduceEqDiff, Nat.reduceSub, Nat.reduceMul, Nat.reduceDiv, SOper.again, same, sameBlk, sameCap, Nat.reduceBneDiff, s_draw2, s_pair, k_pair, asunder, SOper.into, Bool.not_false, Bool.not_true, h1, k_blockE, Ends, gives_ret]
    exact ⟨_, rfl⟩
  · by_cases h2 : z > 0
    · have h2' : 0 < z := h2
      simp -implicitDefEqProofs only [c53, ↓v_lenS, SB, POp.val, AOp.val, WOp.val, Lite.bin, intBin, strBin, eqv, eqMany, eq1, AV.asBool, AV.asInt, AV.asNat, AV.asPtr, AV.asStr, resVals, ResV.val, oneOr, wants, skipped, fillAt, putAt, capOf, optNat, bnd, Nat.reduceBEq, reduceIte, Nat.reduceAdd, Nat.reduceLeDiff, Nat.reduceEqDiff, Nat.reduceSub, Nat.reduceMul, Nat.reduceDiv, SOper.again, same, sameBlk, sameCap, Nat.reduceBneDiff, s_draw2, s_pair, k_pair, asunder, SOper.into, Bool.not_false, Bool.not_true, h1, h2, h2', if_false, k_blockE, Ends, gives_ret]
      exact ⟨_, rfl⟩
    · have h2' : ¬ 0 < z := h2
      simp -implicitDefEqProofs only [c53, ↓v_lenS, SB, POp.val, AOp.val, WOp.val, Lite.bin, intBin, strBin, eqv, eqMany, eq1, AV.asBool, AV.asInt, AV.asNat, AV.asPtr, AV.asStr, resVals, ResV.val, oneOr, wants, skipped, fillAt, putAt, capOf, optNat, bnd, Nat.reduceBEq, reduceIte, Nat.reduceAdd, Nat.reduceLeDiff, Nat.reduceEqDiff, Nat.reduceSub, Nat.reduceMul, Nat.reduceDiv, SOper.again, same, sameBlk, sameCap, Nat.reduceBneDiff, s_draw2, s_pair, k_pair, asunder, SOper.into, Bool.not_false, Bool.not_true, h1, h2, h2', if_false, k_blockE, Ends, gives_ret]
      exact ⟨_, rfl⟩

theorem sign55 (z : Int) : Ret P4 55 [.int .i64 z] (.int .i64 (sgn z)) := by
  refine Ret.of rfl (code55 _ _) rfl rfl (fun H => by simp -implicitDefEqProofs only [↓v_lenS, SB, POp.val, AOp.val, WOp.val, Lite.bin, intBin, strBin, eqv, eqMany, eq1, AV.asBool, AV.asInt, AV.asNat, AV.asPtr, AV.asStr, resVals, ResV.val, oneOr, wants, skipped, fillAt, putAt, capOf, optNat, bnd, Nat.reduceBEq, reduceIte, Nat.reduceAdd, Nat.reduceLeDiff, Nat.reduceEqDiff, Nat.reduceSub, Nat.reduceMul, Nat.reduceDiv, SOper.again, same, sameBlk, sameCap, Nat.reduceBneDiff, s_draw2, s_pair, k_pair, asunder, SOper.into, Bool.not_false, Bool.not_true, BS]) (Ev.of fun n H => ?_)
  unfold sgn
  by_cases h1 : z < 0
  · simp -implicitDefEqProofs only [c55, ↓v_lenS, SB, POp.val, AOp.val, WOp.val, Lite.bin, intBin, strBin, eqv, eqMany, eq1, AV.asBool, AV.asInt, AV.asNat, AV.asPtr, AV.asStr, resVals, ResV.val, oneOr, wants, skipped, fillAt, putAt, capOf, optNat, bnd, Nat.reduceBEq, reduceIte, Nat.reduceAdd, Nat.reduceLeDiff, Nat.reduceEqDiff, Nat.reduceSub, Nat.reduceMul, Nat.reduceDiv, SOper.again, same, sameBlk, sameCap, Nat.reduceBneDiff, s_draw2, s_pair, k_pair, asunder, SOper.into, Bool.not_false, Bool.not_true, h1, k_blockE, Ends, gives_ret]
    exact ⟨_, rfl⟩
  · by_cases h2 : z > 0
    · have h2' : 0 < z := h2
      simp -implicitDefEqProofs only [c55, ↓v_lenS, SB, POp.val, AOp.val, WOp.val, Lite.bin, intBin, strBin, eqv, eqMany, eq1, AV.asBool, AV.asInt, AV.asNat, AV.asPtr, AV.asStr, resVals, ResV.val, oneOr, wants, skipped, fillAt, putAt, capOf, optNat, bnd, Nat.reduceBEq, reduceIte, Nat.reduceAdd, Nat.reduceLeDiff, Nat.reduceEqDiff, Nat.reduceSub, Nat.reduceMul, Nat.reduceDiv, SOper.again, same, sameBlk, sameCap, Nat.reduceBneDiff, s_draw2, s_pair, k_pair, asunder, SOper.into, Bool.not_false, Bool.not_true, h1, h2, h2', if_false, k_blockE, Ends, gives_ret]
      exact ⟨_, rfl⟩
    · have h2' : ¬ 0 < z := h2
      simp -implicitDefEqProofs only [c55, ↓v_lenS, SB, POp.val, AOp.val, WOp.val, Lite.bin, intBin, strBin, eqv, eqMany, eq1, AV.asBool, AV.asInt, AV.asNat, AV.asPtr, AV.asStr, resVals, ResV.val, oneOr, wants, skipped, fillAt, putAt, capOf, optNat, bnd, Nat.reduceBEq, reduceIte, Nat.reduceAdd, Nat.reduceLeDiff, Nat.reduceEqDiff, Nat.reduceSub, Nat.reduceMul, Nat.reduceDiv, SOper.again, same, sameBlk, sameCap, Nat.reduceBneDiff, s_draw2, s_pair, k_pair, asunder, SOper.into, Bool.not_false, Bool.not_true, h1, h2, h2', if_false, k_blockE, Ends, gives_ret]
      exact ⟨_, rfl⟩

/-- a row, up to some place, no more -/
theorem slice_vN {f : Bool} {l : List Nat} {j : Nat} (hj : j ≤ l.length) :
    ∃ y, sliceOf 1 (vN f l) none (some j) (some j) = some y ∧ ∀ H, shutV y H = some (vN true (l.take j), H) := by
  cases l with
  | nil =>
    obtain rfl : j = 0 := by simpa using hj
    refine ⟨.lst 0 0 true [], ?_, fun H => by rw [List.take_nil, vN_nil, shutV_lstF, L_zero]⟩
    simp only [vN_nil, sliceOf, Option.getD_some, Option.getD_none]
    rw [if_pos ⟨by omega, by omega, by omega, .inr trivial⟩]
    cases f <;> simp
  | cons x l =>
    have h1 : (nat1 x ++ l.flatMap nat1) = (x :: l).flatMap nat1 := by simp
    refine ⟨.lst 1 j true (((x :: l).take j).flatMap nat1), ?_, fun H => ?_⟩
    · simp only [vN, vList_cons, sliceOf, Option.getD_some, Option.getD_none]
      simp only [List.length_cons] at hj
      rw [if_pos ⟨by omega, by omega, by omega, .inl trivial⟩, h1, Nat.zero_mul, List.drop_zero, Nat.sub_zero, flat_take nat1_len]
      simp [Nat.beq_refl]
    · rw [shutV_lstF]
      have hl : ((x :: l).take j).length = j := by rw [List.length_take]; exact Nat.min_eq_left hj
      show some (AV.L true 1 _ j, H) = some (AV.L true 1 _ ((x :: l).take j).length, H)
      rw [hl]

theorem trim_at {l : List Nat} {i : Nat} (h1 : (trimL l).length ≤ i) (h2 : i < l.length) : atN l i = 0 := by
  have key : ∀ l : List Nat, (trimL l).length ≤ i → i < l.length → atN l i = 0 := snoc_ind (P := fun l => (trimL l).length ≤ i → i < l.length → atN l i = 0) (fun _ h => by simp at h) fun l d ih h1 h2 => by
    by_cases hd : d = 0
    · subst hd
      rw [trimL_snoc_zero] at h1
      by_cases hi : i < l.length
      · have := ih h1 hi
        unfold atN at this ⊢
        rw [List.getElem?_append_left hi]; exact this
      · have : i = l.length := by simp at h2; omega
        subst this
        simp [atN]
    · rw [trimL_snoc hd] at h1; omega
  exact key l h1 h2

theorem trim_top {l : List Nat} (h : trimL l ≠ []) : atN l ((trimL l).length - 1) ≠ 0 := by
  rcases trimL_last l with h1 | ⟨a, d, h1, hd⟩
  · exact absurd h1 h
  · have h2 := trimL_take l
    have h3 : (trimL l)[(trimL l).length - 1]? = some d := by rw [h1]; simp
    rw [h2, List.getElem?_take_of_lt (by rw [List.length_take]; have := trimL_len l; have := List.length_pos_iff.2 h; omega)] at h3
    rw [List.length_take, Nat.min_eq_left (trimL_len l)] at h3
    unfold atN
    rw [h3]; exact hd

theorem trim35 (f : Bool) (l : List Nat) (hl : l.length ≤ 1000000) : Ret P4 35 [vN f l] (vN true (trimL l)) := by
  refine Ret.of rfl (code35 _ _) rfl rfl (fun H => by simp -implicitDefEqProofs only [↓v_lenS, SB, POp.val, AOp.val, WOp.val, Lite.bin, intBin, strBin, eqv, eqMany, eq1, AV.asBool, AV.asInt, AV.asNat, AV.asPtr, AV.asStr, resVals, ResV.val, oneOr, wants, skipped, fillAt, putAt, capOf, optNat, bnd, Nat.reduceBEq, reduceIte, Nat.reduceAdd, Nat.reduceLeDiff, Nat.reduceEqDiff, Nat.reduceSub, Nat.reduceMul, Nat.reduceDiv, SOper.again, same, sameBlk, sameCap, Nat.reduceBneDiff, s_draw2, s_pair, k_pair, asunder, SOper.into, Bool.not_false, Bool.not_true, BS]) ((Ev.ge (l.length + 2)).mono fun n hge H => ?_)
  have hle := trimL_len l
  simp -implicitDefEqProofs only [c35, ↓v_lenS, SB, POp.val, AOp.val, WOp.val, Lite.bin, intBin, strBin, eqv, eqMany, eq1, AV.asBool, AV.asInt, AV.asNat, AV.asPtr, AV.asStr, resVals, ResV.val, oneOr, wants, skipped, fillAt, putAt, capOf, optNat, bnd, Nat.reduceBEq, reduceIte, Nat.reduceAdd, Nat.reduceLeDiff, Nat.reduceEqDiff, Nat.reduceSub, Nat.reduceMul, Nat.reduceDiv, SOper.again, same, sameBlk, sameCap, Nat.reduceBneDiff, s_draw2, s_pair, k_pair, asunder, SOper.into, Bool.not_false, Bool.not_true, BS]
  refine loop_rounds (l.length - (trimL l).length) (fun i fr H => fr 0 = vN f l ∧ fr 3 = .int .i64 (l.length - i : Nat)) ?_ ?_ n 0 _ _ (by omega) (by omega) ⟨?_, ?_⟩
  · rintro i fr H K' hi ⟨h0, h3⟩ hKe hKr hK
    have hgt : ((l.length - i : Nat) : Int) > 0 := by omega
    have hw : IntKind.i64.wrap (((l.length - i : Nat) : Int) - 1) = ((l.length - (i + 1) : Nat) : Int) := by rw [wrap64 (by omega) (by omega)]; omega
    have ha := iaddr_vN (f := f) (atN_at (l := l) (i := l.length - (i + 1)) (by omega))
    rw [trim_at (l := l) (i := l.length - (i + 1)) (by omega) (by omega)] at ha
    have hz : (((0 : Nat) : Int) == 0) = true := rfl
    simp -implicitDefEqProofs only [c35_l0, ↓v_lenS, SB, POp.val, AOp.val, WOp.val, Lite.bin, intBin, strBin, eqv, eqMany, eq1, AV.asBool, AV.asInt, AV.asNat, AV.asPtr, AV.asStr, resVals, ResV.val, oneOr, wants, skipped, fillAt, putAt, capOf, optNat, bnd, Nat.reduceBEq, reduceIte, Nat.reduceAdd, Nat.reduceLeDiff, Nat.reduceEqDiff, Nat.reduceSub, Nat.reduceMul, Nat.reduceDiv, SOper.again, same, sameBlk, sameCap, Nat.reduceBneDiff, s_draw2, s_pair, k_pair, asunder, SOper.into, Bool.not_false, Bool.not_true, BS, h0, h3, hgt, hw, ha, hz]
    refine hK _ _ ⟨?_, ?_⟩
    all_goals simp -implicitDefEqProofs only [↓v_lenS, SB, POp.val, AOp.val, WOp.val, Lite.bin, intBin, strBin, eqv, eqMany, eq1, AV.asBool, AV.asInt, AV.asNat, AV.asPtr, AV.asStr, resVals, ResV.val, oneOr, wants, skipped, fillAt, putAt, capOf, optNat, bnd, Nat.reduceBEq, reduceIte, Nat.reduceAdd, Nat.reduceLeDiff, Nat.reduceEqDiff, Nat.reduceSub, Nat.reduceMul, Nat.reduceDiv, SOper.again, same, sameBlk, sameCap, Nat.reduceBneDiff, s_draw2, s_pair, k_pair, asunder, SOper.into, Bool.not_false, Bool.not_true, h0]
  · rintro fr H K' ⟨h0, h3⟩ hKe hKr
    have hm : l.length - (l.length - (trimL l).length) = (trimL l).length := by omega
    rw [hm] at h3
    obtain ⟨y, hy, hys⟩ := slice_vN (f := f) (l := l) (j := (trimL l).length) hle
    rw [← trimL_take] at hys
    by_cases hne : trimL l = []
    · have hz : (trimL l).length = 0 := by rw [hne]; rfl
      rw [hz] at h3 hy
      have hgt : ¬ ((0 : Nat) : Int) > 0 := by omega
      simp -implicitDefEqProofs only [c35_l0, ↓v_lenS, SB, POp.val, AOp.val, WOp.val, Lite.bin, intBin, strBin, eqv, eqMany, eq1, AV.asBool, AV.asInt, AV.asNat, AV.asPtr, AV.asStr, resVals, ResV.val, oneOr, wants, skipped, fillAt, putAt, capOf, optNat, bnd, Nat.reduceBEq, reduceIte, Nat.reduceAdd, Nat.reduceLeDiff, Nat.reduceEqDiff, Nat.reduceSub, Nat.reduceMul, Nat.reduceDiv, SOper.again, same, sameBlk, sameCap, Nat.reduceBneDiff, s_draw2, s_pair, k_pair, asunder, SOper.into, Bool.not_false, Bool.not_true, BS, h0, h3, hgt, hKe, k_blockE, hy, Ends, gives_ret]
      exact ⟨_, hys _⟩
    · have hp := List.length_pos_iff.2 hne
      have hgt : (((trimL l).length : Nat) : Int) > 0 := by omega
      have hw : IntKind.i64.wrap (((trimL l).length : Int) - 1) = (((trimL l).length - 1 : Nat) : Int) := by rw [wrap64 (by omega) (by omega)]; omega
      have ha := iaddr_vN (f := f) (atN_at (l := l) (i := (trimL l).length - 1) (by omega))
      have hz : (((atN l ((trimL l).length - 1) : Nat) : Int) == 0) = false := by simpa using trim_top hne
      simp -implicitDefEqProofs only [c35_l0, ↓v_lenS, SB, POp.val, AOp.val, WOp.val, Lite.bin, intBin, strBin, eqv, eqMany, eq1, AV.asBool, AV.asInt, AV.asNat, AV.asPtr, AV.asStr, resVals, ResV.val, oneOr, wants, skipped, fillAt, putAt, capOf, optNat, bnd, Nat.reduceBEq, reduceIte, Nat.reduceAdd, Nat.reduceLeDiff, Nat.reduceEqDiff, Nat.reduceSub, Nat.reduceMul, Nat.reduceDiv, SOper.again, same, sameBlk, sameCap, Nat.reduceBneDiff, s_draw2, s_pair, k_pair, asunder, SOper.into, Bool.not_false, Bool.not_true, BS, h0, h3, hgt, hw, ha, hz, hKe, k_blockE, hy, Ends, gives_ret]
      exact ⟨_, hys _⟩
  · simp -implicitDefEqProofs only [↓v_lenS, SB, POp.val, AOp.val, WOp.val, Lite.bin, intBin, strBin, eqv, eqMany, eq1, AV.asBool, AV.asInt, AV.asNat, AV.asPtr, AV.asStr, resVals, ResV.val, oneOr, wants, skipped, fillAt, putAt, capOf, optNat, bnd, Nat.reduceBEq, reduceIte, Nat.reduceAdd, Nat.reduceLeDiff, Nat.reduceEqDiff, Nat.reduceSub, Nat.reduceMul, Nat.reduceDiv, SOper.again, same, sameBlk, sameCap, Nat.reduceBneDiff, s_draw2, s_pair, k_pair, asunder, SOper.into, Bool.not_false, Bool.not_true]
  · simp -implicitDefEqProofs only [↓v_lenS, SB, POp.val, AOp.val, WOp.val, Lite.bin, intBin, strBin, eqv, eqMany, eq1, AV.asBool, AV.asInt, AV.asNat, AV.asPtr, AV.asStr, resVals, ResV.val, oneOr, wants, skipped, fillAt, putAt, capOf, optNat, bnd, Nat.reduceBEq, reduceIte, Nat.reduceAdd, Nat.reduceLeDiff, Nat.reduceEqDiff, Nat.reduceSub, Nat.reduceMul, Nat.reduceDiv, SOper.again, same, sameBlk, sameCap, Nat.reduceBneDiff, s_draw2, s_pair, k_pair, asunder, SOper.into, Bool.not_false, Bool.not_true]
    rfl

abbrev BB : Nat := 1000000000
theorem BB_eq : BB = 1000000000 := rfl
theorem BB2 : 2 ≤ BB := by decide
theorem BBi : ((BB : Nat) : Int) = 1000000000 := rfl

theorem quo_nat {a b : Nat} (hb : 0 < b) (ha : a < 9223372036854775808) : IntKind.i64.wrap ((a : Int).tdiv (b : Int)) = ((a / b : Nat) : Int) := by
  have h2 : a / b ≤ a := Nat.div_le_self a b
  have h3 : (a : Int) / (b : Int) = ((a / b : Nat) : Int) := rfl
  have h4 : (0 : Int) ≤ ((a / b : Nat) : Int) := Int.natCast_nonneg _
  rw [Int.tdiv_eq_ediv_of_nonneg (by omega), h3]
  exact wrap64 (by omega) (by omega)
theorem rem_nat (a b : Nat) : (a : Int).tmod (b : Int) = ((a % b : Nat) : Int) := by
  rw [Int.tmod_eq_emod_of_nonneg (by omega)]; rfl

theorem plus37 (f g : Bool) (x y : List Nat) (hx : Under BB x) (hy : Under BB y) (hlx : x.length ≤ 900000) (hly : y.length ≤ 900000) : Ret P4 37 [vN f x, vN g y] (vN true (limbs BB (lval BB x + lval BB y))) := by
  have mx : ∃ m : Nat, (if (y.length : Int) > (x.length : Int) then (y.length : Int) else (x.length : Int)) = (m : Int) ∧ x.length ≤ m ∧ y.length ≤ m ∧ m ≤ 900000 := by
    split
    · exact ⟨y.length, rfl, by omega, by omega, by omega⟩
    · exact ⟨x.length, rfl, by omega, by omega, by omega⟩
  obtain ⟨m, hm, hm1, hm2, hm3⟩ := mx
  have hok := plusD_ok BB2 hx hy
  have hend := (plusD_end BB2 hx hy (N := m + 1) (by omega) (by omega)).1
  have hres : trimL (plusD BB x y (m + 1)).1 = limbs BB (lval BB x + lval BB y) := by rw [← hend, limbs_trim BB2 (hok _).2.1]
  rw [← hres]
  refine Ret.of rfl (code37 _ _) rfl rfl (fun H => by simp -implicitDefEqProofs only [↓v_lenS, SB, POp.val, AOp.val, WOp.val, Lite.bin, intBin, strBin, eqv, eqMany, eq1, AV.asBool, AV.asInt, AV.asNat, AV.asPtr, AV.asStr, resVals, ResV.val, oneOr, wants, skipped, fillAt, putAt, capOf, optNat, bnd, Nat.reduceBEq, reduceIte, Nat.reduceAdd, Nat.reduceLeDiff, Nat.reduceEqDiff, Nat.reduceSub, Nat.reduceMul, Nat.reduceDiv, SOper.again, same, sameBlk, sameCap, Nat.reduceBneDiff, s_draw2, s_pair, k_pair, asunder, SOper.into, Bool.not_false, Bool.not_true, BS]) ?_
  refine ((trim35 true (plusD BB x y (m + 1)).1 (by rw [(hok _).1]; omega)).and ((Ev.all (List.range (m + 1)) fun i _ => (at34 f x i).and (at34 g y i)).and (Ev.ge (m + 2)))).mono fun n e H => ?_
  obtain ⟨e1, e2, hge⟩ := e
  have hwm : IntKind.i64.wrap ((m : Int) + 1) = ((m + 1 : Nat) : Int) := wrap_succ (n := m + 1) (by omega) (by omega)
  simp -implicitDefEqProofs only [c37, ↓v_lenS, SB, POp.val, AOp.val, WOp.val, Lite.bin, intBin, strBin, eqv, eqMany, eq1, AV.asBool, AV.asInt, AV.asNat, AV.asPtr, AV.asStr, resVals, ResV.val, oneOr, wants, skipped, fillAt, putAt, capOf, optNat, bnd, Nat.reduceBEq, reduceIte, Nat.reduceAdd, Nat.reduceLeDiff, Nat.reduceEqDiff, Nat.reduceSub, Nat.reduceMul, Nat.reduceDiv, SOper.again, same, sameBlk, sameCap, Nat.reduceBneDiff, s_draw2, s_pair, k_pair, asunder, SOper.into, Bool.not_false, Bool.not_true, BS, hm, hwm]
  refine loop_rounds (m + 1) (fun i fr H => fr 0 = vN f x ∧ fr 1 = vN g y ∧ fr 14 = .int .i64 (m + 1 : Nat) ∧ fr 15 = .int .i64 i ∧ fr 6 = .int .i64 ((plusD BB x y i).2 : Nat) ∧ HLow H ∧ Acc 0 H 3 1 i ((plusD BB x y i).1.flatMap nat1) (fr 5)) ?_ ?_ n 0 _ _ (by omega) (by omega) ?_
  · rintro i fr H K' hi ⟨h0, h1, h14, h15, h6, low, acc⟩ hKe hKr hK
    obtain ⟨p1, p2, p3, p4⟩ := hok i
    obtain ⟨e3, e4⟩ := e2 i (List.mem_range.2 hi)
    have hBB := BB_eq
    have a1 := atN_lt (by omega) hx i
    have a2 := atN_lt (by omega) hy i
    have hlt : (i : Int) < ((m + 1 : Nat) : Int) := by omega
    have hw := wrap_succ (i := i) (n := m + 1) hi (by omega)
    have hnx : plusD BB x y (i + 1) = ((plusD BB x y i).1 ++ [(atN x i + atN y i + (plusD BB x y i).2) % BB], (atN x i + atN y i + (plusD BB x y i).2) / BB) := rfl
    rw [hnx] at hK
    generalize (plusD BB x y i).2 = c at *
    generalize (plusD BB x y i).1 = out at *
    have w1 : IntKind.i64.wrap ((atN x i : Int) + (atN y i : Int)) = ((atN x i + atN y i : Nat) : Int) := by rw [wrap64 (by omega) (by omega)]; rfl
    have w2 : IntKind.i64.wrap (((atN x i + atN y i : Nat) : Int) + (c : Int)) = ((atN x i + atN y i + c : Nat) : Int) := by rw [wrap64 (by omega) (by omega)]; rfl
    have w3 := quo_nat (a := atN x i + atN y i + c) (b := BB) (by omega) (by omega)
    have w4 := rem_nat (atN x i + atN y i + c) BB
    have w5 : ((1000000000 : Int) == 0) = false := rfl
    have w6 : ¬ (1000000000 : Int) = 0 := by omega
    rw [BBi] at w3 w4
    generalize atN x i + atN y i + c = d at *
    obtain ⟨H7, happ, acc7, low7, hn7, car7⟩ := nat_more acc low (Nat.zero_le _) (d % BB) (by omega) p1
    generalize hv : fr 5 = v at *
    simp -implicitDefEqProofs only [c37_l0, ↓v_lenS, SB, POp.val, AOp.val, WOp.val, Lite.bin, intBin, strBin, eqv, eqMany, eq1, AV.asBool, AV.asInt, AV.asNat, AV.asPtr, AV.asStr, resVals, ResV.val, oneOr, wants, skipped, fillAt, putAt, capOf, optNat, bnd, Nat.reduceBEq, reduceIte, Nat.reduceAdd, Nat.reduceLeDiff, Nat.reduceEqDiff, Nat.reduceSub, Nat.reduceMul, Nat.reduceDiv, SOper.again, same, sameBlk, sameCap, Nat.reduceBneDiff, s_draw2, s_pair, k_pair, asunder, SOper.into, Bool.not_false, Bool.not_true, CL, BS, h0, h1, h14, h15, h6, hv, hlt, hw, e3, e4, w1, w2, w3, w4, w5, w6, acc.flat, happ]
    refine hK _ _ ⟨?_, ?_, ?_, ?_, ?_, low7, ?_⟩
    all_goals simp -implicitDefEqProofs only [↓v_lenS, SB, POp.val, AOp.val, WOp.val, Lite.bin, intBin, strBin, eqv, eqMany, eq1, AV.asBool, AV.asInt, AV.asNat, AV.asPtr, AV.asStr, resVals, ResV.val, oneOr, wants, skipped, fillAt, putAt, capOf, optNat, bnd, Nat.reduceBEq, reduceIte, Nat.reduceAdd, Nat.reduceLeDiff, Nat.reduceEqDiff, Nat.reduceSub, Nat.reduceMul, Nat.reduceDiv, SOper.again, same, sameBlk, sameCap, Nat.reduceBneDiff, s_draw2, s_pair, k_pair, asunder, SOper.into, Bool.not_false, Bool.not_true, h0, h1, h14]
    exact acc7
  · rintro fr H K' ⟨h0, h1, h14, h15, h6, low, acc⟩ hKe hKr
    obtain ⟨H', hs, kp⟩ := acc.shutV (by decide) (nats_still _)
    have hs' : shutV (fr 5) H = some (vN true (plusD BB x y (m + 1)).1, H') := by
      rw [hs]; show some (AV.L true 1 _ (m + 1), H') = some (AV.L true 1 _ (plusD BB x y (m + 1)).1.length, H'); rw [(hok _).1]
    simp -implicitDefEqProofs only [c37_l0, ↓v_lenS, SB, POp.val, AOp.val, WOp.val, Lite.bin, intBin, strBin, eqv, eqMany, eq1, AV.asBool, AV.asInt, AV.asNat, AV.asPtr, AV.asStr, resVals, ResV.val, oneOr, wants, skipped, fillAt, putAt, capOf, optNat, bnd, Nat.reduceBEq, reduceIte, Nat.reduceAdd, Nat.reduceLeDiff, Nat.reduceEqDiff, Nat.reduceSub, Nat.reduceMul, Nat.reduceDiv, SOper.again, same, sameBlk, sameCap, Nat.reduceBneDiff, s_draw2, s_pair, k_pair, asunder, SOper.into, Bool.not_false, Bool.not_true, CL, BS, h0, h1, h14, h15, Int.lt_irrefl, hKe, k_blockE, hs', e1, gives_ret]
    exact ⟨_, rfl⟩
  · refine ⟨?_, ?_, ?_, ?_, ?_, HLow.bare, ?_⟩
    all_goals simp -implicitDefEqProofs only [↓v_lenS, SB, POp.val, AOp.val, WOp.val, Lite.bin, intBin, strBin, eqv, eqMany, eq1, AV.asBool, AV.asInt, AV.asNat, AV.asPtr, AV.asStr, resVals, ResV.val, oneOr, wants, skipped, fillAt, putAt, capOf, optNat, bnd, Nat.reduceBEq, reduceIte, Nat.reduceAdd, Nat.reduceLeDiff, Nat.reduceEqDiff, Nat.reduceSub, Nat.reduceMul, Nat.reduceDiv, SOper.again, same, sameBlk, sameCap, Nat.reduceBneDiff, s_draw2, s_pair, k_pair, asunder, SOper.into, Bool.not_false, Bool.not_true]
    · rfl
    · rfl
    · exact Acc.nil

theorem less39 (f g : Bool) (x y : List Nat) (hx : Under BB x) (hy : Under BB y) (hlx : x.length ≤ 900000) (hly : y.length ≤ x.length) (hle : lval BB y ≤ lval BB x) : Ret P4 39 [vN f x, vN g y] (vN true (limbs BB (lval BB x - lval BB y))) := by
  have hok := lessD_ok BB2 hx hy
  have hend := lessD_end BB2 hx hy hly hle
  have hres : trimL (lessD BB x y x.length).1 = limbs BB (lval BB x - lval BB y) := by rw [← hend, limbs_trim BB2 (hok _).2.1]
  rw [← hres]
  refine Ret.of rfl (code39 _ _) rfl rfl (fun H => by simp -implicitDefEqProofs only [↓v_lenS, SB, POp.val, AOp.val, WOp.val, Lite.bin, intBin, strBin, eqv, eqMany, eq1, AV.asBool, AV.asInt, AV.asNat, AV.asPtr, AV.asStr, resVals, ResV.val, oneOr, wants, skipped, fillAt, putAt, capOf, optNat, bnd, Nat.reduceBEq, reduceIte, Nat.reduceAdd, Nat.reduceLeDiff, Nat.reduceEqDiff, Nat.reduceSub, Nat.reduceMul, Nat.reduceDiv, SOper.again, same, sameBlk, sameCap, Nat.reduceBneDiff, s_draw2, s_pair, k_pair, asunder, SOper.into, Bool.not_false, Bool.not_true, BS]) ?_
  refine ((trim35 true (lessD BB x y x.length).1 (by rw [(hok _).1]; omega)).and ((Ev.all (List.range x.length) fun i _ => at34 g y i).and (Ev.ge (x.length + 2)))).mono fun n e H => ?_
  obtain ⟨e1, e2, hge⟩ := e
  simp -implicitDefEqProofs only [c39, ↓v_lenS, SB, POp.val, AOp.val, WOp.val, Lite.bin, intBin, strBin, eqv, eqMany, eq1, AV.asBool, AV.asInt, AV.asNat, AV.asPtr, AV.asStr, resVals, ResV.val, oneOr, wants, skipped, fillAt, putAt, capOf, optNat, bnd, Nat.reduceBEq, reduceIte, Nat.reduceAdd, Nat.reduceLeDiff, Nat.reduceEqDiff, Nat.reduceSub, Nat.reduceMul, Nat.reduceDiv, SOper.again, same, sameBlk, sameCap, Nat.reduceBneDiff, s_draw2, s_pair, k_pair, asunder, SOper.into, Bool.not_false, Bool.not_true, BS]
  refine loop_rounds x.length (fun i fr H => fr 0 = vN f x ∧ fr 1 = vN g y ∧ fr 10 = .int .i64 x.length ∧ fr 11 = .int .i64 i ∧ fr 6 = .int .i64 ((lessD BB x y i).2 : Nat) ∧ HLow H ∧ Acc 0 H 3 1 i ((lessD BB x y i).1.flatMap nat1) (fr 5)) ?_ ?_ n 0 _ _ (by omega) (by omega) ?_
  · rintro i fr H K' hi ⟨h0, h1, h10, h11, h6, low, acc⟩ hKe hKr hK
    obtain ⟨p1, p2, p3, p4⟩ := hok i
    have e4 := e2 i (List.mem_range.2 hi)
    have hBB := BB_eq
    have a1 := atN_lt (by omega) hx i
    have a2 := atN_lt (by omega) hy i
    have hlt : (i : Int) < (x.length : Int) := by omega
    have hw := wrap_succ (i := i) (n := x.length) hi (by omega)
    have ha := iaddr_vN (f := f) (atN_at hi)
    have hnx : lessD BB x y (i + 1) = ((lessD BB x y i).1 ++ [lessE BB (atN x i) (atN y i) (lessD BB x y i).2], lessB (atN x i) (atN y i) (lessD BB x y i).2) := rfl
    rw [hnx] at hK
    generalize (lessD BB x y i).2 = c at *
    generalize (lessD BB x y i).1 = out at *
    generalize atN x i = a at *
    generalize atN y i = b at *
    obtain ⟨H7, happ, acc7, low7, hn7, car7⟩ := nat_more acc low (Nat.zero_le _) (lessE BB a b c) (by omega) p1
    generalize hv : fr 5 = v at *
    have w1 : IntKind.i64.wrap ((a : Int) - (b : Int)) = (a : Int) - b := wrap64 (by omega) (by omega)
    have w2 : IntKind.i64.wrap ((a : Int) - (b : Int) - (c : Int)) = (a : Int) - b - c := wrap64 (by omega) (by omega)
    by_cases hb : b + c ≤ a
    · have hn : ¬ (a : Int) - b - c < 0 := by omega
      have hE : (a : Int) - b - c = ((lessE BB a b c : Nat) : Int) := by unfold lessE; rw [if_pos hb]; omega
      have hB' : lessB a b c = 0 := by unfold lessB; rw [if_pos hb]
      rw [hB'] at hK
      replace w2 := w2.trans hE
      rw [hE] at hn
      simp -implicitDefEqProofs only [c39_l0, ↓v_lenS, SB, POp.val, AOp.val, WOp.val, Lite.bin, intBin, strBin, eqv, eqMany, eq1, AV.asBool, AV.asInt, AV.asNat, AV.asPtr, AV.asStr, resVals, ResV.val, oneOr, wants, skipped, fillAt, putAt, capOf, optNat, bnd, Nat.reduceBEq, reduceIte, Nat.reduceAdd, Nat.reduceLeDiff, Nat.reduceEqDiff, Nat.reduceSub, Nat.reduceMul, Nat.reduceDiv, SOper.again, same, sameBlk, sameCap, Nat.reduceBneDiff, s_draw2, s_pair, k_pair, asunder, SOper.into, Bool.not_false, Bool.not_true, CL, BS, h0, h1, h10, h11, h6, hv, hlt, hw, e4, ha, w1, w2, hn, acc.flat, happ]
      refine hK _ _ ⟨?_, ?_, ?_, ?_, ?_, low7, ?_⟩
      all_goals simp -implicitDefEqProofs only [↓v_lenS, SB, POp.val, AOp.val, WOp.val, Lite.bin, intBin, strBin, eqv, eqMany, eq1, AV.asBool, AV.asInt, AV.asNat, AV.asPtr, AV.asStr, resVals, ResV.val, oneOr, wants, skipped, fillAt, putAt, capOf, optNat, bnd, Nat.reduceBEq, reduceIte, Nat.reduceAdd, Nat.reduceLeDiff, Nat.reduceEqDiff, Nat.reduceSub, Nat.reduceMul, Nat.reduceDiv, SOper.again, same, sameBlk, sameCap, Nat.reduceBneDiff, s_draw2, s_pair, k_pair, asunder, SOper.into, Bool.not_false, Bool.not_true, h0, h1, h10]
      · rfl
      · exact acc7
    · have hn : (a : Int) - b - c < 0 := by omega
      have hE : IntKind.i64.wrap ((a : Int) - b - c + 1000000000) = ((lessE BB a b c : Nat) : Int) := by
        unfold lessE; rw [if_neg hb, wrap64 (by omega) (by omega)]; omega
      have hB' : lessB a b c = 1 := by unfold lessB; rw [if_neg hb]
      rw [hB'] at hK
      simp -implicitDefEqProofs only [c39_l0, ↓v_lenS, SB, POp.val, AOp.val, WOp.val, Lite.bin, intBin, strBin, eqv, eqMany, eq1, AV.asBool, AV.asInt, AV.asNat, AV.asPtr, AV.asStr, resVals, ResV.val, oneOr, wants, skipped, fillAt, putAt, capOf, optNat, bnd, Nat.reduceBEq, reduceIte, Nat.reduceAdd, Nat.reduceLeDiff, Nat.reduceEqDiff, Nat.reduceSub, Nat.reduceMul, Nat.reduceDiv, SOper.again, same, sameBlk, sameCap, Nat.reduceBneDiff, s_draw2, s_pair, k_pair, asunder, SOper.into, Bool.not_false, Bool.not_true, CL, BS, h0, h1, h10, h11, h6, hv, hlt, hw, e4, ha, w1, w2, hn, hE, acc.flat, happ]
      refine hK _ _ ⟨?_, ?_, ?_, ?_, ?_, low7, ?_⟩
      all_goals simp -implicitDefEqProofs only [↓v_lenS, SB, POp.val, AOp.val, WOp.val, Lite.bin, intBin, strBin, eqv, eqMany, eq1, AV.asBool, AV.asInt, AV.asNat, AV.asPtr, AV.asStr, resVals, ResV.val, oneOr, wants, skipped, fillAt, putAt, capOf, optNat, bnd, Nat.reduceBEq, reduceIte, Nat.reduceAdd, Nat.reduceLeDiff, Nat.reduceEqDiff, Nat.reduceSub, Nat.reduceMul, Nat.reduceDiv, SOper.again, same, sameBlk, sameCap, Nat.reduceBneDiff, s_draw2, s_pair, k_pair, asunder, SOper.into, Bool.not_false, Bool.not_true, h0, h1, h10]
      · rfl
      · exact acc7
  · rintro fr H K' ⟨h0, h1, h10, h11, h6, low, acc⟩ hKe hKr
    obtain ⟨H', hs, kp⟩ := acc.shutV (by decide) (nats_still _)
    have hs' : shutV (fr 5) H = some (vN true (lessD BB x y x.length).1, H') := by
      rw [hs]; show some (AV.L true 1 _ x.length, H') = some (AV.L true 1 _ (lessD BB x y x.length).1.length, H'); rw [(hok _).1]
    simp -implicitDefEqProofs only [c39_l0, ↓v_lenS, SB, POp.val, AOp.val, WOp.val, Lite.bin, intBin, strBin, eqv, eqMany, eq1, AV.asBool, AV.asInt, AV.asNat, AV.asPtr, AV.asStr, resVals, ResV.val, oneOr, wants, skipped, fillAt, putAt, capOf, optNat, bnd, Nat.reduceBEq, reduceIte, Nat.reduceAdd, Nat.reduceLeDiff, Nat.reduceEqDiff, Nat.reduceSub, Nat.reduceMul, Nat.reduceDiv, SOper.again, same, sameBlk, sameCap, Nat.reduceBneDiff, s_draw2, s_pair, k_pair, asunder, SOper.into, Bool.not_false, Bool.not_true, CL, BS, h0, h1, h10, h11, Int.lt_irrefl, hKe, k_blockE, hs', e1, gives_ret]
    exact ⟨_, rfl⟩
  · refine ⟨?_, ?_, ?_, ?_, ?_, HLow.bare, ?_⟩
    all_goals simp -implicitDefEqProofs only [↓v_lenS, SB, POp.val, AOp.val, WOp.val, Lite.bin, intBin, strBin, eqv, eqMany, eq1, AV.asBool, AV.asInt, AV.asNat, AV.asPtr, AV.asStr, resVals, ResV.val, oneOr, wants, skipped, fillAt, putAt, capOf, optNat, bnd, Nat.reduceBEq, reduceIte, Nat.reduceAdd, Nat.reduceLeDiff, Nat.reduceEqDiff, Nat.reduceSub, Nat.reduceMul, Nat.reduceDiv, SOper.again, same, sameBlk, sameCap, Nat.reduceBneDiff, s_draw2, s_pair, k_pair, asunder, SOper.into, Bool.not_false, Bool.not_true]
    · rfl
    · rfl
    · exact Acc.nil

theorem sgn_pos {z : Int} (h : 0 < z) : sgn z = 1 := by unfold sgn; rw [if_neg (by omega), if_pos h]
theorem sgn_neg {z : Int} (h : z < 0) : sgn z = -1 := by unfold sgn; rw [if_pos h]

theorem drop_atN {x y : List Nat} {j : Nat} (hl : x.length = y.length) (h1 : j < x.length) (hd : x.drop (j + 1) = y.drop (j + 1)) (h : atN x j = atN y j) : x.drop j = y.drop j := by
  rw [List.drop_eq_getElem_cons h1, List.drop_eq_getElem_cons (by omega : j < y.length), hd]
  have a1 := atN_at h1
  have a2 := atN_at (l := y) (i := j) (by omega)
  rw [List.getElem?_eq_getElem h1] at a1
  rw [List.getElem?_eq_getElem (by omega : j < y.length)] at a2
  simp only [Option.some.injEq] at a1 a2
  rw [a1, a2, h]

theorem compare38 (f g : Bool) (x y : List Nat) (hx : Under BB x) (hy : Under BB y) (lx : Last x) (ly : Last y) (hlx : x.length ≤ 900000) (hly : y.length ≤ 900000) : Ret P4 38 [vN f x, vN g y] (.int .i64 (cmpN (lval BB x) (lval BB y))) := by
  refine Ret.of rfl (code38 _ _) rfl rfl (fun H => by simp -implicitDefEqProofs only [↓v_lenS, SB, POp.val, AOp.val, WOp.val, Lite.bin, intBin, strBin, eqv, eqMany, eq1, AV.asBool, AV.asInt, AV.asNat, AV.asPtr, AV.asStr, resVals, ResV.val, oneOr, wants, skipped, fillAt, putAt, capOf, optNat, bnd, Nat.reduceBEq, reduceIte, Nat.reduceAdd, Nat.reduceLeDiff, Nat.reduceEqDiff, Nat.reduceSub, Nat.reduceMul, Nat.reduceDiv, SOper.again, same, sameBlk, sameCap, Nat.reduceBneDiff, s_draw2, s_pair, k_pair, asunder, SOper.into, Bool.not_false, Bool.not_true, BS]) ?_
  refine ((sign53 ((x.length : Int) - y.length)).and ((Ev.all (List.range x.length) fun i _ => sign53 ((atN x i : Int) - atN y i)).and (Ev.ge (x.length + 2)))).mono fun n e H => ?_
  obtain ⟨e1, e2, hge⟩ := e
  by_cases hl : x.length = y.length
  · have hne : ((x.length : Int) != (y.length : Int)) = false := by rw [hl]; simp
    have hw0 : IntKind.i64.wrap ((x.length : Int) - 1) = (x.length : Int) - 1 := wrap64 (by omega) (by omega)
    simp -implicitDefEqProofs only [c38, ↓v_lenS, SB, POp.val, AOp.val, WOp.val, Lite.bin, intBin, strBin, eqv, eqMany, eq1, AV.asBool, AV.asInt, AV.asNat, AV.asPtr, AV.asStr, resVals, ResV.val, oneOr, wants, skipped, fillAt, putAt, capOf, optNat, bnd, Nat.reduceBEq, reduceIte, Nat.reduceAdd, Nat.reduceLeDiff, Nat.reduceEqDiff, Nat.reduceSub, Nat.reduceMul, Nat.reduceDiv, SOper.again, same, sameBlk, sameCap, Nat.reduceBneDiff, s_draw2, s_pair, k_pair, asunder, SOper.into, Bool.not_false, Bool.not_true, BS, hne, hw0]
    refine loop_rounds x.length (fun i fr H => fr 0 = vN f x ∧ fr 1 = vN g y ∧ fr 5 = .int .i64 ((x.length : Int) - 1 - i) ∧ x.drop (x.length - i) = y.drop (x.length - i)) ?_ ?_ n 0 _ _ (by omega) (by omega) ?_
    · rintro i fr H K' hi ⟨h0, h1, h5, hd⟩ hKe hKr hK
      obtain ⟨j, hj⟩ : ∃ j, j = x.length - (i + 1) := ⟨_, rfl⟩
      have hji : (x.length : Int) - 1 - i = (j : Int) := by omega
      have hji' : (x.length : Int) - 1 - ((i + 1 : Nat) : Int) = (j : Int) - 1 := by omega
      have hge0 : (j : Int) ≥ 0 := by omega
      have hw : IntKind.i64.wrap ((j : Int) - 1) = (j : Int) - 1 := wrap64 (by omega) (by omega)
      rw [hji] at h5
      rw [hji'] at hK
      rw [show x.length - i = j + 1 by omega] at hd
      have ha := iaddr_vN (f := f) (atN_at (l := x) (i := j) (by omega))
      have hb := iaddr_vN (f := g) (atN_at (l := y) (i := j) (by omega))
      have e3 := e2 j (List.mem_range.2 (by omega))
      have hBB := BB_eq
      have a1 := atN_lt (by omega) hx j
      have a2 := atN_lt (by omega) hy j
      have w1 : IntKind.i64.wrap ((atN x j : Int) - atN y j) = (atN x j : Int) - atN y j := wrap64 (by omega) (by omega)
      by_cases hq : atN x j = atN y j
      · have hE : ((atN x j : Int) != (atN y j : Int)) = false := by rw [hq]; simp
        simp -implicitDefEqProofs only [c38_l0, ↓v_lenS, SB, POp.val, AOp.val, WOp.val, Lite.bin, intBin, strBin, eqv, eqMany, eq1, AV.asBool, AV.asInt, AV.asNat, AV.asPtr, AV.asStr, resVals, ResV.val, oneOr, wants, skipped, fillAt, putAt, capOf, optNat, bnd, Nat.reduceBEq, reduceIte, Nat.reduceAdd, Nat.reduceLeDiff, Nat.reduceEqDiff, Nat.reduceSub, Nat.reduceMul, Nat.reduceDiv, SOper.again, same, sameBlk, sameCap, Nat.reduceBneDiff, s_draw2, s_pair, k_pair, asunder, SOper.into, Bool.not_false, Bool.not_true, CL, BS, h0, h1, h5, hge0, ha, hb, hE, hw]
        refine hK _ _ ⟨?_, ?_, ?_, ?_⟩
        any_goals simp -implicitDefEqProofs only [↓v_lenS, SB, POp.val, AOp.val, WOp.val, Lite.bin, intBin, strBin, eqv, eqMany, eq1, AV.asBool, AV.asInt, AV.asNat, AV.asPtr, AV.asStr, resVals, ResV.val, oneOr, wants, skipped, fillAt, putAt, capOf, optNat, bnd, Nat.reduceBEq, reduceIte, Nat.reduceAdd, Nat.reduceLeDiff, Nat.reduceEqDiff, Nat.reduceSub, Nat.reduceMul, Nat.reduceDiv, SOper.again, same, sameBlk, sameCap, Nat.reduceBneDiff, s_draw2, s_pair, k_pair, asunder, SOper.into, Bool.not_false, Bool.not_true, h0, h1]
        rw [← hj]; exact drop_atN hl (by omega) hd hq
      · have hE : ((atN x j : Int) != (atN y j : Int)) = true := by simp; omega
        have hc : cmpN (lval BB x) (lval BB y) = sgn ((atN x j : Int) - atN y j) := by
          rcases Nat.lt_or_ge (atN x j) (atN y j) with h | h
          · have := cmp_at BB2 hx (by omega) (by omega) hd h
            rw [sgn_neg (by omega), cmpN, if_pos this]
          · have := cmp_at BB2 hy (by omega) (by omega) hd.symm (by omega)
            rw [sgn_pos (by omega), cmpN, if_neg (by omega), if_pos this]
        rw [hc]
        simp -implicitDefEqProofs only [c38_l0, ↓v_lenS, SB, POp.val, AOp.val, WOp.val, Lite.bin, intBin, strBin, eqv, eqMany, eq1, AV.asBool, AV.asInt, AV.asNat, AV.asPtr, AV.asStr, resVals, ResV.val, oneOr, wants, skipped, fillAt, putAt, capOf, optNat, bnd, Nat.reduceBEq, reduceIte, Nat.reduceAdd, Nat.reduceLeDiff, Nat.reduceEqDiff, Nat.reduceSub, Nat.reduceMul, Nat.reduceDiv, SOper.again, same, sameBlk, sameCap, Nat.reduceBneDiff, s_draw2, s_pair, k_pair, asunder, SOper.into, Bool.not_false, Bool.not_true, CL, BS, h0, h1, h5, hge0, ha, hb, hE, hw, w1, e3, hKr, gives_ret]
        exact ⟨_, rfl⟩
    · rintro fr H K' ⟨h0, h1, h5, hd⟩ hKe hKr
      rw [Nat.sub_self, List.drop_zero, List.drop_zero] at hd
      subst hd
      have hc : cmpN (lval BB x) (lval BB x) = 0 := by simp [cmpN]
      have hge0 : ¬ ((x.length : Int) - 1 - (x.length : Int)) ≥ 0 := by omega
      rw [hc]
      simp -implicitDefEqProofs only [c38_l0, ↓v_lenS, SB, POp.val, AOp.val, WOp.val, Lite.bin, intBin, strBin, eqv, eqMany, eq1, AV.asBool, AV.asInt, AV.asNat, AV.asPtr, AV.asStr, resVals, ResV.val, oneOr, wants, skipped, fillAt, putAt, capOf, optNat, bnd, Nat.reduceBEq, reduceIte, Nat.reduceAdd, Nat.reduceLeDiff, Nat.reduceEqDiff, Nat.reduceSub, Nat.reduceMul, Nat.reduceDiv, SOper.again, same, sameBlk, sameCap, Nat.reduceBneDiff, s_draw2, s_pair, k_pair, asunder, SOper.into, Bool.not_false, Bool.not_true, CL, BS, h0, h1, h5, hge0, hKe, k_blockE, gives_ret]
      exact ⟨_, rfl⟩
    · refine ⟨?_, ?_, ?_, ?_⟩
      any_goals simp -implicitDefEqProofs only [↓v_lenS, SB, POp.val, AOp.val, WOp.val, Lite.bin, intBin, strBin, eqv, eqMany, eq1, AV.asBool, AV.asInt, AV.asNat, AV.asPtr, AV.asStr, resVals, ResV.val, oneOr, wants, skipped, fillAt, putAt, capOf, optNat, bnd, Nat.reduceBEq, reduceIte, Nat.reduceAdd, Nat.reduceLeDiff, Nat.reduceEqDiff, Nat.reduceSub, Nat.reduceMul, Nat.reduceDiv, SOper.again, same, sameBlk, sameCap, Nat.reduceBneDiff, s_draw2, s_pair, k_pair, asunder, SOper.into, Bool.not_false, Bool.not_true]
      · simp
      · simp [hl]
  · have hne : ((x.length : Int) != (y.length : Int)) = true := by simp; omega
    have hw0 : IntKind.i64.wrap ((x.length : Int) - (y.length : Int)) = (x.length : Int) - y.length := wrap64 (by omega) (by omega)
    have hc : cmpN (lval BB x) (lval BB y) = sgn ((x.length : Int) - y.length) := by
      rcases Nat.lt_or_ge x.length y.length with h | h
      · have := cmp_len BB2 hx ly h
        rw [sgn_neg (by omega), cmpN, if_pos this]
      · have := cmp_len BB2 hy lx (by omega)
        rw [sgn_pos (by omega), cmpN, if_neg (by omega), if_pos this]
    rw [hc]
    simp -implicitDefEqProofs only [c38, ↓v_lenS, SB, POp.val, AOp.val, WOp.val, Lite.bin, intBin, strBin, eqv, eqMany, eq1, AV.asBool, AV.asInt, AV.asNat, AV.asPtr, AV.asStr, resVals, ResV.val, oneOr, wants, skipped, fillAt, putAt, capOf, optNat, bnd, Nat.reduceBEq, reduceIte, Nat.reduceAdd, Nat.reduceLeDiff, Nat.reduceEqDiff, Nat.reduceSub, Nat.reduceMul, Nat.reduceDiv, SOper.again, same, sameBlk, sameCap, Nat.reduceBneDiff, s_draw2, s_pair, k_pair, asunder, SOper.into, Bool.not_false, Bool.not_true, CL, BS, hne, hw0, e1, Ends, gives_ret]
    exact ⟨_, rfl⟩

end Go.Lite

/-
  A text's number; a number's text.
-/
namespace Go.Lite
open Go Go.Proofs
set_option maxRecDepth 100000
set_option linter.unusedSimpArgs false
set_option linter.unusedVariables false

/-- nine digits, the r-th from the end -/
def chunk (d : Str) (r : Nat) : Str := (d.take (d.length - 9 * r)).drop (d.length - 9 * (r + 1))
def chunks (d : Str) : Nat → List Nat
  | 0 => []
  | r + 1 => chunks d r ++ [dval (chunk d r)]

theorem chunks_len (d : Str) : ∀ r, (chunks d r).length = r
  | 0 => rfl
  | r + 1 => by simp [chunks, chunks_len d r]

theorem chunk_digs {d : Str} (h : Digs d) (r : Nat) : Digs (chunk d r) := (h.take _).drop _
theorem chunk_len (d : Str) (r : Nat) : (chunk d r).length ≤ 9 := by unfold chunk; rw [List.length_drop, List.length_take]; omega
theorem chunk_lt {d : Str} (h : Digs d) (r : Nat) : dval (chunk d r) < BB := by
  have h1 := dval_lt (chunk_digs h r)
  have h2 : 10 ^ (chunk d r).length ≤ 10 ^ 9 := Nat.pow_le_pow_right (by omega) (chunk_len d r)
  have : (10 : Nat) ^ 9 = BB := by decide
  omega
theorem chunks_under {d : Str} (h : Digs d) : ∀ r, Under BB (chunks d r)
  | 0 => .nil
  | r + 1 => (chunks_under h r).snoc (chunk_lt h r)

theorem chunks_val (d : Str) : ∀ r, 9 * r ≤ d.length + 8 → lval BB (chunks d r) = dval (d.drop (d.length - 9 * r))
  | 0, _ => by simp [chunks, lval, dval]
  | r + 1, hr => by
    have h1 := chunks_val d r (by omega)
    have h2 : d.drop (d.length - 9 * (r + 1)) = chunk d r ++ d.drop (d.length - 9 * r) := by
      unfold chunk
      rw [← List.drop_append_of_le_length (by rw [List.length_take]; omega), List.take_append_drop]
    have h3 : BB ^ r = 10 ^ (9 * r) := by rw [Nat.pow_mul]
    rw [chunks, lval_snoc, chunks_len, h1, h2, dval_append, List.length_drop, h3]
    have h4 : d.length - (d.length - 9 * r) = 9 * r := by omega
    rw [h4, Nat.mul_comm (10 ^ (9 * r))]
    omega

theorem i32_digit {c : Nat} (h1 : 48 ≤ c) (h2 : c ≤ 57) : IntKind.i32.wrap ((c : Int) - 48) = ((c - 48 : Nat) : Int) := by
  have : ∀ c : Nat, c < 58 → 48 ≤ c → IntKind.i32.wrap ((c : Int) - 48) = ((c - 48 : Nat) : Int) := by decide
  exact this c (by omega) h1

theorem Acc.putI {N : Nat} {H : Heap} {e es n : Nat} {cells : List AV} {v : AV} {ob : Obj} {k : Nat} (h : Acc N H e es n cells v) {s : List Nat} {p : Nat} (hk : H.t.get k = some (.iter s p)) : Acc N (H.put k ob) e es n cells v :=
  h.keep fun j _ _ hj => by
    rw [h_gput, if_neg]
    rintro rfl
    rw [hk] at hj
    cases hj

theorem dval_take {t : Str} {i c : Nat} (h : t[i]? = some c) : dval (t.take (i + 1)) = 10 * dval (t.take i) + (c - 48) := by
  rw [List.take_add_one, h, Option.toList_some, dval_snoc]

/-- the inner loop -/
theorem load_l0 {n m : Nat} {t : Str} {k r : Nat} {out : List Nat} {s3 s4 s6 : AV} {fr : Fr} {H : Heap} {KK : Ex → Fr → Heap → R} {Q : AV → Heap → Prop} (ht : Digs t) (hl : t.length ≤ 9) (hn : 11 ≤ m) (h27 : fr 27 = .ptr (.new k) 0) (hk : H.t.get k = some (.iter t 0)) (h7 : fr 7 = .int .i64 0)
    (h2 : fr 2 = .ptr (.new 0) 0) (h3 : fr 3 = s3) (h4 : fr 4 = s4) (h6 : fr 6 = s6) (hk0 : H.t.get 0 = some (.row [.bool false, .nils] 0 false (some 45))) (low : HLow H) (acc : Acc 1 H 3 1 r (out.flatMap nat1) (fr 5))
    (hK : ∀ (fr : Fr) (H : Heap), fr 7 = .int .i64 (dval t : Nat) → fr 2 = .ptr (.new 0) 0 → fr 3 = s3 → fr 4 = s4 → fr 6 = s6 → H.t.get 0 = some (.row [.bool false, .nils] 0 false (some 45)) → HLow H → Acc 1 H 3 1 r (out.flatMap nat1) (fr 5) → Gives (KK (.exit 2) fr H) Q) :
    Gives (loopR (callN P4 n) n c30_l0 m fr H KK) Q := by
  have hk0' : k ≠ 0 := fun e => by subst e; rw [hk0] at hk; cases hk
  refine loop_rounds t.length (fun i fr H => fr 27 = .ptr (.new k) 0 ∧ H.t.get k = some (.iter t i) ∧ fr 7 = .int .i64 (dval (t.take i) : Nat) ∧ fr 2 = .ptr (.new 0) 0 ∧ fr 3 = s3 ∧ fr 4 = s4 ∧ fr 6 = s6 ∧ H.t.get 0 = some (.row [.bool false, .nils] 0 false (some 45)) ∧ HLow H ∧ Acc 1 H 3 1 r (out.flatMap nat1) (fr 5)) ?_ ?_ m 0 _ _ (by omega) (by omega) ⟨h27, hk, h7, h2, h3, h4, h6, hk0, low, acc⟩
  · rintro i fr H K' hi ⟨h27, hk, h7, h2, h3, h4, h6, hk0, low, acc⟩ hKe hKr hK
    obtain ⟨c, hc⟩ : ∃ c, t[i]? = some c := ⟨t[i], List.getElem?_eq_getElem hi⟩
    obtain ⟨hd1, hd2⟩ := ht c (List.mem_of_getElem? hc)
    have hde : decodeAt (t.drop i) = (c, 1) := decode_small (by rw [List.getElem?_drop]; exact hc) (by omega)
    have hv := dval_take hc
    have hlt := dval_lt (ht.take i)
    have hpow : (10 : Nat) ^ (t.take i).length ≤ 10 ^ 9 := Nat.pow_le_pow_right (by omega) (by rw [List.length_take]; omega)
    rw [hv] at hK
    generalize dval (t.take i) = a at *
    have w1 : IntKind.i64.wrap (10 * (a : Int)) = ((10 * a : Nat) : Int) := by rw [wrap64 (by omega) (by omega)]; omega
    have w2 := i32_digit hd1 hd2
    have w3 : IntKind.i64.wrap ((c - 48 : Nat) : Int) = ((c - 48 : Nat) : Int) := wrap64 (by omega) (by omega)
    have w4 : IntKind.i64.wrap (((10 * a : Nat) : Int) + ((c - 48 : Nat) : Int)) = ((10 * a + (c - 48) : Nat) : Int) := by rw [wrap64 (by omega) (by omega)]; rfl
    generalize hv5 : fr 5 = v at *
    simp -implicitDefEqProofs only [c30_l0, ↓v_lenS, SB, POp.val, AOp.val, WOp.val, Lite.bin, intBin, strBin, eqv, eqMany, eq1, AV.asBool, AV.asInt, AV.asNat, AV.asPtr, AV.asStr, resVals, ResV.val, oneOr, wants, skipped, fillAt, putAt, capOf, optNat, bnd, Nat.reduceBEq, reduceIte, Nat.reduceAdd, Nat.reduceLeDiff, Nat.reduceEqDiff, Nat.reduceSub, Nat.reduceMul, Nat.reduceDiv, SOper.again, same, sameBlk, sameCap, Nat.reduceBneDiff, s_draw2, s_pair, k_pair, asunder, SOper.into, Bool.not_false, Bool.not_true, h27, hk, hi, hde, h7, w1, w2, w3, w4]
    refine hK _ _ ⟨?_, ?_, ?_, ?_, ?_, ?_, ?_, ?_, low.put (low.lt hk), ?_⟩
    · simp -implicitDefEqProofs only [↓v_lenS, SB, POp.val, AOp.val, WOp.val, Lite.bin, intBin, strBin, eqv, eqMany, eq1, AV.asBool, AV.asInt, AV.asNat, AV.asPtr, AV.asStr, resVals, ResV.val, oneOr, wants, skipped, fillAt, putAt, capOf, optNat, bnd, Nat.reduceBEq, reduceIte, Nat.reduceAdd, Nat.reduceLeDiff, Nat.reduceEqDiff, Nat.reduceSub, Nat.reduceMul, Nat.reduceDiv, SOper.again, same, sameBlk, sameCap, Nat.reduceBneDiff, s_draw2, s_pair, k_pair, asunder, SOper.into, Bool.not_false, Bool.not_true, h27]
    · simp -implicitDefEqProofs only [↓v_lenS, SB, POp.val, AOp.val, WOp.val, Lite.bin, intBin, strBin, eqv, eqMany, eq1, AV.asBool, AV.asInt, AV.asNat, AV.asPtr, AV.asStr, resVals, ResV.val, oneOr, wants, skipped, fillAt, putAt, capOf, optNat, bnd, Nat.reduceBEq, reduceIte, Nat.reduceAdd, Nat.reduceLeDiff, Nat.reduceEqDiff, Nat.reduceSub, Nat.reduceMul, Nat.reduceDiv, SOper.again, same, sameBlk, sameCap, Nat.reduceBneDiff, s_draw2, s_pair, k_pair, asunder, SOper.into, Bool.not_false, Bool.not_true]
    · simp -implicitDefEqProofs only [↓v_lenS, SB, POp.val, AOp.val, WOp.val, Lite.bin, intBin, strBin, eqv, eqMany, eq1, AV.asBool, AV.asInt, AV.asNat, AV.asPtr, AV.asStr, resVals, ResV.val, oneOr, wants, skipped, fillAt, putAt, capOf, optNat, bnd, Nat.reduceBEq, reduceIte, Nat.reduceAdd, Nat.reduceLeDiff, Nat.reduceEqDiff, Nat.reduceSub, Nat.reduceMul, Nat.reduceDiv, SOper.again, same, sameBlk, sameCap, Nat.reduceBneDiff, s_draw2, s_pair, k_pair, asunder, SOper.into, Bool.not_false, Bool.not_true]
    · simp -implicitDefEqProofs only [↓v_lenS, SB, POp.val, AOp.val, WOp.val, Lite.bin, intBin, strBin, eqv, eqMany, eq1, AV.asBool, AV.asInt, AV.asNat, AV.asPtr, AV.asStr, resVals, ResV.val, oneOr, wants, skipped, fillAt, putAt, capOf, optNat, bnd, Nat.reduceBEq, reduceIte, Nat.reduceAdd, Nat.reduceLeDiff, Nat.reduceEqDiff, Nat.reduceSub, Nat.reduceMul, Nat.reduceDiv, SOper.again, same, sameBlk, sameCap, Nat.reduceBneDiff, s_draw2, s_pair, k_pair, asunder, SOper.into, Bool.not_false, Bool.not_true, h2]
    · simp -implicitDefEqProofs only [↓v_lenS, SB, POp.val, AOp.val, WOp.val, Lite.bin, intBin, strBin, eqv, eqMany, eq1, AV.asBool, AV.asInt, AV.asNat, AV.asPtr, AV.asStr, resVals, ResV.val, oneOr, wants, skipped, fillAt, putAt, capOf, optNat, bnd, Nat.reduceBEq, reduceIte, Nat.reduceAdd, Nat.reduceLeDiff, Nat.reduceEqDiff, Nat.reduceSub, Nat.reduceMul, Nat.reduceDiv, SOper.again, same, sameBlk, sameCap, Nat.reduceBneDiff, s_draw2, s_pair, k_pair, asunder, SOper.into, Bool.not_false, Bool.not_true, h3]
    · simp -implicitDefEqProofs only [↓v_lenS, SB, POp.val, AOp.val, WOp.val, Lite.bin, intBin, strBin, eqv, eqMany, eq1, AV.asBool, AV.asInt, AV.asNat, AV.asPtr, AV.asStr, resVals, ResV.val, oneOr, wants, skipped, fillAt, putAt, capOf, optNat, bnd, Nat.reduceBEq, reduceIte, Nat.reduceAdd, Nat.reduceLeDiff, Nat.reduceEqDiff, Nat.reduceSub, Nat.reduceMul, Nat.reduceDiv, SOper.again, same, sameBlk, sameCap, Nat.reduceBneDiff, s_draw2, s_pair, k_pair, asunder, SOper.into, Bool.not_false, Bool.not_true, h4]
    · simp -implicitDefEqProofs only [↓v_lenS, SB, POp.val, AOp.val, WOp.val, Lite.bin, intBin, strBin, eqv, eqMany, eq1, AV.asBool, AV.asInt, AV.asNat, AV.asPtr, AV.asStr, resVals, ResV.val, oneOr, wants, skipped, fillAt, putAt, capOf, optNat, bnd, Nat.reduceBEq, reduceIte, Nat.reduceAdd, Nat.reduceLeDiff, Nat.reduceEqDiff, Nat.reduceSub, Nat.reduceMul, Nat.reduceDiv, SOper.again, same, sameBlk, sameCap, Nat.reduceBneDiff, s_draw2, s_pair, k_pair, asunder, SOper.into, Bool.not_false, Bool.not_true, h6]
    · rw [h_gput, if_neg (Ne.symm hk0')]; exact hk0
    · simp -implicitDefEqProofs only [↓v_lenS, SB, POp.val, AOp.val, WOp.val, Lite.bin, intBin, strBin, eqv, eqMany, eq1, AV.asBool, AV.asInt, AV.asNat, AV.asPtr, AV.asStr, resVals, ResV.val, oneOr, wants, skipped, fillAt, putAt, capOf, optNat, bnd, Nat.reduceBEq, reduceIte, Nat.reduceAdd, Nat.reduceLeDiff, Nat.reduceEqDiff, Nat.reduceSub, Nat.reduceMul, Nat.reduceDiv, SOper.again, same, sameBlk, sameCap, Nat.reduceBneDiff, s_draw2, s_pair, k_pair, asunder, SOper.into, Bool.not_false, Bool.not_true, hv5]; exact acc.putI hk
  · rintro fr H K' ⟨h27, hk, h7, h2, h3, h4, h6, hk0, low, acc⟩ hKe hKr
    have hlt : ¬ t.length < t.length := by omega
    rw [List.take_length] at h7
    generalize hv5 : fr 5 = v at *
    simp -implicitDefEqProofs only [c30_l0, ↓v_lenS, SB, POp.val, AOp.val, WOp.val, Lite.bin, intBin, strBin, eqv, eqMany, eq1, AV.asBool, AV.asInt, AV.asNat, AV.asPtr, AV.asStr, resVals, ResV.val, oneOr, wants, skipped, fillAt, putAt, capOf, optNat, bnd, Nat.reduceBEq, reduceIte, Nat.reduceAdd, Nat.reduceLeDiff, Nat.reduceEqDiff, Nat.reduceSub, Nat.reduceMul, Nat.reduceDiv, SOper.again, same, sameBlk, sameCap, Nat.reduceBneDiff, s_draw2, s_pair, k_pair, asunder, SOper.into, Bool.not_false, Bool.not_true, h27, hk, hlt, hKe]
    refine hK _ _ ?_ ?_ ?_ ?_ ?_ hk0 low ?_
    all_goals simp -implicitDefEqProofs only [↓v_lenS, SB, POp.val, AOp.val, WOp.val, Lite.bin, intBin, strBin, eqv, eqMany, eq1, AV.asBool, AV.asInt, AV.asNat, AV.asPtr, AV.asStr, resVals, ResV.val, oneOr, wants, skipped, fillAt, putAt, capOf, optNat, bnd, Nat.reduceBEq, reduceIte, Nat.reduceAdd, Nat.reduceLeDiff, Nat.reduceEqDiff, Nat.reduceSub, Nat.reduceMul, Nat.reduceDiv, SOper.again, same, sameBlk, sameCap, Nat.reduceBneDiff, s_draw2, s_pair, k_pair, asunder, SOper.into, Bool.not_false, Bool.not_true, h7, h2, h3, h4, h6, hv5]
    exact acc

theorem load30 (s : Str) (hd : Digs (cutS s)) (hs : s.length ≤ 100000) : Ret P4 30 [.str s] (.agg [.bool (negS s), vN true (limbs BB (dval (cutS s)))]) := by
  have hlen := cutS_len s
  obtain ⟨N, hN⟩ : ∃ N, N = ((cutS s).length + 8) / 9 := ⟨_, rfl⟩
  have hres : trimL (chunks (cutS s) N) = limbs BB (dval (cutS s)) := by
    have h1 := chunks_val (cutS s) N (by omega)
    rw [show (cutS s).length - 9 * N = 0 by omega, List.drop_zero] at h1
    rw [← h1, limbs_trim BB2 (chunks_under hd N)]
  rw [← hres]
  refine Ret.of rfl (code30 _ _) rfl rfl (fun H => by simp -implicitDefEqProofs only [↓v_lenS, SB, POp.val, AOp.val, WOp.val, Lite.bin, intBin, strBin, eqv, eqMany, eq1, AV.asBool, AV.asInt, AV.asNat, AV.asPtr, AV.asStr, resVals, ResV.val, oneOr, wants, skipped, fillAt, putAt, capOf, optNat, bnd, Nat.reduceBEq, reduceIte, Nat.reduceAdd, Nat.reduceLeDiff, Nat.reduceEqDiff, Nat.reduceSub, Nat.reduceMul, Nat.reduceDiv, SOper.again, same, sameBlk, sameCap, Nat.reduceBneDiff, s_draw2, s_pair, k_pair, asunder, SOper.into, Bool.not_false, Bool.not_true]) ?_
  refine ((cut29 s (by omega)).and ((trim35 true (chunks (cutS s) N) (by rw [chunks_len]; omega)).and (Ev.ge (N + 20)))).mono fun n e H => ?_
  obtain ⟨e1, e2, hge⟩ := e
  generalize cutS s = d at *
  generalize negS s = b at *
  simp -implicitDefEqProofs only [c30, ↓v_lenS, SB, POp.val, AOp.val, WOp.val, Lite.bin, intBin, strBin, eqv, eqMany, eq1, AV.asBool, AV.asInt, AV.asNat, AV.asPtr, AV.asStr, resVals, ResV.val, oneOr, wants, skipped, fillAt, putAt, capOf, optNat, bnd, Nat.reduceBEq, reduceIte, Nat.reduceAdd, Nat.reduceLeDiff, Nat.reduceEqDiff, Nat.reduceSub, Nat.reduceMul, Nat.reduceDiv, SOper.again, same, sameBlk, sameCap, Nat.reduceBneDiff, s_draw2, s_pair, k_pair, asunder, SOper.into, Bool.not_false, Bool.not_true, CL, e1]
  refine loop_rounds N (fun r fr H => fr 2 = .ptr (.new 0) 0 ∧ fr 3 = .str d ∧ fr 4 = .bool b ∧ fr 6 = .int .i64 ((d.length : Int) - 9 * r) ∧ H.t.get 0 = some (.row [.bool false, .nils] 0 false (some 45)) ∧ HLow H ∧ Acc 1 H 3 1 r ((chunks d r).flatMap nat1) (fr 5)) ?_ ?_ n 0 _ _ (by omega) (by omega) ?_
  · rintro r fr H K' hi ⟨h2, h3, h4, h6, hk0, low, acc⟩ hKe hKr hK
    obtain ⟨hi9, hhi⟩ : ∃ x, x = d.length - 9 * r := ⟨_, rfl⟩
    obtain ⟨lo9, hlo⟩ : ∃ x, x = d.length - 9 * (r + 1) := ⟨_, rfl⟩
    have hgt : (hi9 : Int) > 0 := by omega
    rw [show (d.length : Int) - 9 * (r : Int) = (hi9 : Int) by omega] at h6
    have w1 : IntKind.i64.wrap ((hi9 : Int) - 9) = (d.length : Int) - 9 * ((r + 1 : Nat) : Int) := by rw [wrap64 (by omega) (by omega)]; omega
    have w2 : (if (0 : Int) > (d.length : Int) - 9 * ((r + 1 : Nat) : Int) then (0 : Int) else (d.length : Int) - 9 * ((r + 1 : Nat) : Int)) = (lo9 : Int) := by split <;> omega
    have c1 : lo9 ≤ hi9 := by omega
    have c2 : hi9 ≤ d.length := by omega
    have c3 : (d.drop lo9).take (hi9 - lo9) = chunk d r := by rw [chunk, List.drop_take, hhi, hlo]
    have ht := chunk_digs hd r
    have hcl := chunk_len d r
    have hnx : chunks d (r + 1) = chunks d r ++ [dval (chunk d r)] := rfl
    have hol := chunks_len d r
    rw [hnx] at hK
    generalize chunks d r = out at *
    generalize chunk d r = t at *
    simp -implicitDefEqProofs only [c30_l1, ↓v_lenS, SB, POp.val, AOp.val, WOp.val, Lite.bin, intBin, strBin, eqv, eqMany, eq1, AV.asBool, AV.asInt, AV.asNat, AV.asPtr, AV.asStr, resVals, ResV.val, oneOr, wants, skipped, fillAt, putAt, capOf, optNat, bnd, Nat.reduceBEq, reduceIte, Nat.reduceAdd, Nat.reduceLeDiff, Nat.reduceEqDiff, Nat.reduceSub, Nat.reduceMul, Nat.reduceDiv, SOper.again, same, sameBlk, sameCap, Nat.reduceBneDiff, s_draw2, s_pair, k_pair, asunder, SOper.into, Bool.not_false, Bool.not_true, CL, h2, h3, h4, h6, hgt, w1, w2, c1, c2, c3]
    have k0n : H.n ≠ 0 := by have := low.lt hk0; omega
    refine load_l0 (k := H.n) (r := r) (out := out) (s3 := .str d) (s4 := .bool b) (s6 := .int .i64 (hi9 : Int)) ht hcl (by omega) ?_ (by rw [h_get, if_pos rfl]) ?_ ?_ ?_ ?_ ?_ (by rw [h_get, if_neg (Ne.symm k0n)]; exact hk0) low.push ?_ ?_
    any_goals simp -implicitDefEqProofs only [↓v_lenS, SB, POp.val, AOp.val, WOp.val, Lite.bin, intBin, strBin, eqv, eqMany, eq1, AV.asBool, AV.asInt, AV.asNat, AV.asPtr, AV.asStr, resVals, ResV.val, oneOr, wants, skipped, fillAt, putAt, capOf, optNat, bnd, Nat.reduceBEq, reduceIte, Nat.reduceAdd, Nat.reduceLeDiff, Nat.reduceEqDiff, Nat.reduceSub, Nat.reduceMul, Nat.reduceDiv, SOper.again, same, sameBlk, sameCap, Nat.reduceBneDiff, s_draw2, s_pair, k_pair, asunder, SOper.into, Bool.not_false, Bool.not_true, h2, h3, h4, h6]
    · exact acc.push low
    · intro fr H h7 h2 h3 h4 h6 hk0 low acc
      obtain ⟨H7, happ, acc7, low7, hn7, car7⟩ := nat_more acc low (low.lt hk0) (dval t) (by omega) hol
      generalize hv5 : fr 5 = v at *
      simp -implicitDefEqProofs only [↓v_lenS, SB, POp.val, AOp.val, WOp.val, Lite.bin, intBin, strBin, eqv, eqMany, eq1, AV.asBool, AV.asInt, AV.asNat, AV.asPtr, AV.asStr, resVals, ResV.val, oneOr, wants, skipped, fillAt, putAt, capOf, optNat, bnd, Nat.reduceBEq, reduceIte, Nat.reduceAdd, Nat.reduceLeDiff, Nat.reduceEqDiff, Nat.reduceSub, Nat.reduceMul, Nat.reduceDiv, SOper.again, same, sameBlk, sameCap, Nat.reduceBneDiff, s_draw2, s_pair, k_pair, asunder, SOper.into, Bool.not_false, Bool.not_true, CL, k_blockE, h2, h3, h4, h6, h7, hv5, acc.flat, happ, w1]
      refine hK _ _ ⟨?_, ?_, ?_, ?_, car7 _ _ _ _ hk0, low7, ?_⟩
      any_goals simp -implicitDefEqProofs only [↓v_lenS, SB, POp.val, AOp.val, WOp.val, Lite.bin, intBin, strBin, eqv, eqMany, eq1, AV.asBool, AV.asInt, AV.asNat, AV.asPtr, AV.asStr, resVals, ResV.val, oneOr, wants, skipped, fillAt, putAt, capOf, optNat, bnd, Nat.reduceBEq, reduceIte, Nat.reduceAdd, Nat.reduceLeDiff, Nat.reduceEqDiff, Nat.reduceSub, Nat.reduceMul, Nat.reduceDiv, SOper.again, same, sameBlk, sameCap, Nat.reduceBneDiff, s_draw2, s_pair, k_pair, asunder, SOper.into, Bool.not_false, Bool.not_true, h2, h3, h4]
      exact acc7
  · rintro fr H K' ⟨h2, h3, h4, h6, hk0, low, acc⟩ hKe hKr
    have hgt : ¬ (d.length : Int) - 9 * (N : Int) > 0 := by omega
    obtain ⟨H', hs, kp⟩ := acc.shutV (by decide) (nats_still _)
    have hs' : shutV (fr 5) H = some (vN true (chunks d N), H') := by
      rw [hs]; show some (AV.L true 1 _ N, H') = some (AV.L true 1 _ (chunks d N).length, H'); rw [chunks_len]
    have g0 := acc.row (by decide) kp hk0
    simp -implicitDefEqProofs only [c30_l1, ↓v_lenS, SB, POp.val, AOp.val, WOp.val, Lite.bin, intBin, strBin, eqv, eqMany, eq1, AV.asBool, AV.asInt, AV.asNat, AV.asPtr, AV.asStr, resVals, ResV.val, oneOr, wants, skipped, fillAt, putAt, capOf, optNat, bnd, Nat.reduceBEq, reduceIte, Nat.reduceAdd, Nat.reduceLeDiff, Nat.reduceEqDiff, Nat.reduceSub, Nat.reduceMul, Nat.reduceDiv, SOper.again, same, sameBlk, sameCap, Nat.reduceBneDiff, s_draw2, s_pair, k_pair, asunder, SOper.into, Bool.not_false, Bool.not_true, CL, BS, h2, h3, h4, h6, hgt, hKe, k_blockE, hs', e2, g0, gives_ret]
    exact ⟨_, rfl⟩
  · refine ⟨?_, ?_, ?_, ?_, ?_, HLow.bare.push, ?_⟩
    any_goals simp -implicitDefEqProofs only [↓v_lenS, SB, POp.val, AOp.val, WOp.val, Lite.bin, intBin, strBin, eqv, eqMany, eq1, AV.asBool, AV.asInt, AV.asNat, AV.asPtr, AV.asStr, resVals, ResV.val, oneOr, wants, skipped, fillAt, putAt, capOf, optNat, bnd, Nat.reduceBEq, reduceIte, Nat.reduceAdd, Nat.reduceLeDiff, Nat.reduceEqDiff, Nat.reduceSub, Nat.reduceMul, Nat.reduceDiv, SOper.again, same, sameBlk, sameCap, Nat.reduceBneDiff, s_draw2, s_pair, k_pair, asunder, SOper.into, Bool.not_false, Bool.not_true]
    any_goals rfl
    exact Acc.nil

end Go.Lite

/-
  A builder; a number's text.
-/
namespace Go.Lite
open Go Go.Proofs
set_option maxRecDepth 100000
set_option linter.unusedSimpArgs false
set_option linter.unusedVariables false

theorem reps_len (s : Str) : ∀ c, (reps s c).length = c * s.length
  | 0 => by simp [reps_zero]
  | c + 1 => by rw [reps_succ, List.length_append, reps_len s c, Nat.succ_mul]; omega

theorem zeros_digs : ∀ c, Digs (reps [48] c)
  | 0 => .nil
  | c + 1 => by rw [reps_succ]; exact Digs.append (a := [48]) (fun x hx => by rw [List.mem_singleton.1 hx]; omega) (zeros_digs c)
theorem zeros_val : ∀ c, dval (reps [48] c) = 0
  | 0 => rfl
  | c + 1 => by rw [reps_succ, dval_append, zeros_val c]; simp [dval]

/-- limbs behind limbs -/
theorem decN_cat {v m : Nat} (hv : 0 < v) (hm : m < BB) : decN (m + BB * v) = decN v ++ reps [48] (9 - (decN m).length) ++ decN m := by
  have hl : (decN m).length ≤ 9 := (decN_len_le (by omega)).2 hm
  have hne := decN_ne v
  have hd : Digs (decN v ++ reps [48] (9 - (decN m).length) ++ decN m) := ((decN_digs v).append (zeros_digs _)).append (decN_digs m)
  have hval : dval (decN v ++ reps [48] (9 - (decN m).length) ++ decN m) = m + BB * v := by
    rw [dval_append, dval_append, dval_decN, dval_decN, zeros_val, reps_len, List.length_singleton, Nat.mul_one, Nat.add_zero, Nat.mul_assoc, ← Nat.pow_add]
    rw [show 9 - (decN m).length + (decN m).length = 9 by omega]
    have : (10 : Nat) ^ 9 = BB := by decide
    rw [this, Nat.mul_comm]; omega
  rw [← hval]
  refine decN_of hd (by simp [hne]) ?_
  intro h0
  have hp := List.length_pos_iff.2 hne
  rw [List.append_assoc, List.getElem?_append_left hp] at h0
  have := decN_head v h0
  omega

/-- in block k a builder that holds the bytes s -/
def Bld (H : Heap) (k : Nat) (s : List Nat) : Prop :=
  ∃ a bv, (a = .nilp ∨ a = .ptr (.new k) 0) ∧ H.t.get k = some (.row [a, bv] 0 false (some 61)) ∧ Acc 0 H 5 1 s.length (bytes s) bv

theorem write49 {n : Nat} {H : Heap} {k : Nat} {s t : List Nat} (hb : Bld H k s) (low : HLow H) (hlen : s.length + t.length ≤ 1099511627776) :
    Gives (callN P4 (n + 2) 49 [.ptr (.new k) 0, .str t] H) fun _ H' => Bld H' k (s ++ t) ∧ HKeep (firmBut k) H H' := by
  rw [callN_code (P := P4) (sf := c49) rfl (code49 _ _) rfl rfl]
  obtain ⟨a, bv, ha, hg, hc⟩ := hb
  have hk : k < H.n := low k _ hg
  have fb := hc.flat
  have fin : ∀ H1 : Heap, H1.t.get k = some (.row [.ptr (.new k) 0, bv] 0 false (some 61)) → HLow H1 → HKeep (firmBut k) H H1 → Acc 0 H1 5 1 s.length (bytes s) bv →
      ∃ v' H2, appendOf 5 1 1 H1 bv (t.length, bytes t) = some (v', H2) ∧ H2.t.get k = some (.row [.ptr (.new k) 0, bv] 0 false (some 61)) ∧ v'.flat = true ∧ Bld (H2.put k (.row [.ptr (.new k) 0, v'] 0 false (some 61))) k (s ++ t) ∧ HKeep (firmBut k) H (H2.put k (.row [.ptr (.new k) 0, v'] 0 false (some 61))) := by
    intro H1 hg1 low1 kp1 hc1
    obtain ⟨v', H2, happ, hc2, kp2, low2⟩ := hc1.more (m := t.length) (bs := 1) (ys := bytes t) (Nat.zero_le _) low1 (by decide) (by simp [bytes_len]) (bytes_flat t) (by omega)
    have hg2 := hc1.row (by decide) kp2 hg1
    refine ⟨v', H2, happ, hg2, hc2.flat, ⟨_, v', .inr rfl, by rw [h_gput, if_pos rfl], ?_⟩, ?_⟩
    · rw [bytes_append, List.length_append]
      exact hc2.put (by decide) hg2
    · have kp3 : HKeep (firmBut k) H H2 := kp1.trans ((hc1.firm (by decide) kp2).mono fun j o _ h => .inr h)
      exact kp3.trans (HKeep.put (X := firmBut k) (fun _ => .inl rfl) (low2 k _ hg2))
  rcases ha with rfl | rfl
  · obtain ⟨v', H2, e1, e2, e3, e4, e5⟩ := fin (H.put k (.row [.ptr (.new k) 0, bv] 0 false (some 61))) (by rw [h_gput, if_pos rfl]) (low.put hk) (HKeep.put (X := firmBut k) (fun _ => .inl rfl) hk) (hc.put (by decide) hg)
    simp -implicitDefEqProofs only [c49, ↓v_lenS, SB, POp.val, AOp.val, WOp.val, Lite.bin, intBin, strBin, eqv, eqMany, eq1, AV.asBool, AV.asInt, AV.asNat, AV.asPtr, AV.asStr, resVals, ResV.val, oneOr, wants, skipped, fillAt, putAt, capOf, optNat, bnd, Nat.reduceBEq, reduceIte, Nat.reduceAdd, Nat.reduceLeDiff, Nat.reduceEqDiff, Nat.reduceSub, Nat.reduceMul, Nat.reduceDiv, SOper.again, same, sameBlk, sameCap, Nat.reduceBneDiff, s_draw2, s_pair, k_pair, asunder, SOper.into, Bool.not_false, Bool.not_true, CL, gives_ret, callN_own (P := P4) (f := 58) (g := ownCheck lies4) rfl, ownCheck, hg, lies4, Nat.reduceBEq, beq_lit, taken_str, e1, e2, e3]
    exact ⟨e4, e5⟩
  · obtain ⟨v', H2, e1, e2, e3, e4, e5⟩ := fin H hg low HKeep.refl hc
    simp -implicitDefEqProofs only [c49, ↓v_lenS, SB, POp.val, AOp.val, WOp.val, Lite.bin, intBin, strBin, eqv, eqMany, eq1, AV.asBool, AV.asInt, AV.asNat, AV.asPtr, AV.asStr, resVals, ResV.val, oneOr, wants, skipped, fillAt, putAt, capOf, optNat, bnd, Nat.reduceBEq, reduceIte, Nat.reduceAdd, Nat.reduceLeDiff, Nat.reduceEqDiff, Nat.reduceSub, Nat.reduceMul, Nat.reduceDiv, SOper.again, same, sameBlk, sameCap, Nat.reduceBneDiff, s_draw2, s_pair, k_pair, asunder, SOper.into, Bool.not_false, Bool.not_true, CL, gives_ret, callN_own (P := P4) (f := 58) (g := ownCheck lies4) rfl, ownCheck, hg, lies4, Nat.reduceBEq, beq_lit, taken_str, e1, e2, e3]
    exact ⟨e4, e5⟩

theorem string51 {n : Nat} {H : Heap} {k : Nat} {s : List Nat} (hb : Bld H k s) (h256 : ∀ c ∈ s, c < 256) (hlen : s.length ≤ 1099511627776) :
    ∃ H', callN P4 (n + 1) 51 [.ptr (.new k) 0] H = some (.ret (.str s), H') := by
  rw [callN_own (P := P4) (g := ownString) rfl]
  obtain ⟨a, bv, ha, hg, hc⟩ := hb
  rcases hc with ⟨h0, h1, rfl⟩ | ⟨h0, h1, j, rfl, _, hgj⟩
  · obtain rfl := List.eq_nil_of_length_eq_zero h0
    simp -implicitDefEqProofs only [ownString, ↓v_lenS, SB, POp.val, AOp.val, WOp.val, Lite.bin, intBin, strBin, eqv, eqMany, eq1, AV.asBool, AV.asInt, AV.asNat, AV.asPtr, AV.asStr, resVals, ResV.val, oneOr, wants, skipped, fillAt, putAt, capOf, optNat, bnd, Nat.reduceBEq, reduceIte, Nat.reduceAdd, Nat.reduceLeDiff, Nat.reduceEqDiff, Nat.reduceSub, Nat.reduceMul, Nat.reduceDiv, SOper.again, same, sameBlk, sameCap, Nat.reduceBneDiff, s_draw2, s_pair, k_pair, asunder, SOper.into, Bool.not_false, Bool.not_true, hg]
    exact ⟨_, rfl⟩
  · cases s with
    | nil => exact absurd rfl h0
    | cons c s =>
      have e1 : (bytes (c :: s)).take (s.length + 1) = bytes (c :: s) := List.take_of_length_le (by simp [bytes])
      have e2 := bytesOf_bytes (c :: s) h256
      simp -implicitDefEqProofs only [ownString, ↓v_lenS, SB, POp.val, AOp.val, WOp.val, Lite.bin, intBin, strBin, eqv, eqMany, eq1, AV.asBool, AV.asInt, AV.asNat, AV.asPtr, AV.asStr, resVals, ResV.val, oneOr, wants, skipped, fillAt, putAt, capOf, optNat, bnd, Nat.reduceBEq, reduceIte, Nat.reduceAdd, Nat.reduceLeDiff, Nat.reduceEqDiff, Nat.reduceSub, Nat.reduceMul, Nat.reduceDiv, SOper.again, same, sameBlk, sameCap, Nat.reduceBneDiff, s_draw2, s_pair, k_pair, asunder, SOper.into, Bool.not_false, Bool.not_true, hg, hgj, e1, e2]
      rw [if_pos (by simp [bytes] at hlen ⊢; omega)]
      exact ⟨_, rfl⟩

theorem len48 {n : Nat} {H : Heap} {k : Nat} {s : List Nat} (hb : Bld H k s) : callN P4 (n + 1) 48 [.ptr (.new k) 0] H = some (.ret (.int .i64 (s.length : Nat)), H) := by
  rw [callN_code (P := P4) (sf := c48) rfl (code48 _ _) rfl rfl]
  obtain ⟨a, bv, ha, hg, hc⟩ := hb
  have hl := hc.len
  simp -implicitDefEqProofs only [c48, ↓v_lenS, SB, POp.val, AOp.val, WOp.val, Lite.bin, intBin, strBin, eqv, eqMany, eq1, AV.asBool, AV.asInt, AV.asNat, AV.asPtr, AV.asStr, resVals, ResV.val, oneOr, wants, skipped, fillAt, putAt, capOf, optNat, bnd, Nat.reduceBEq, reduceIte, Nat.reduceAdd, Nat.reduceLeDiff, Nat.reduceEqDiff, Nat.reduceSub, Nat.reduceMul, Nat.reduceDiv, SOper.again, same, sameBlk, sameCap, Nat.reduceBneDiff, s_draw2, s_pair, k_pair, asunder, SOper.into, Bool.not_false, Bool.not_true, hg, hl]

theorem itoa47 {n a : Nat} {H : Heap} (h : a ≤ 9223372036854775807) : callN P4 (n + 1) 47 [.int .i64 (a : Int)] H = some (.ret (.str (decN a)), H) := by
  rw [callN_own (P := P4) (g := ownItoa) rfl, ownItoa, if_pos (by omega), Int.toNat_natCast]

theorem repeat50 {n a : Nat} {H : Heap} {s : Str} (h : a ≤ 9) (hs : s.length ≤ 9) : callN P4 (n + 1) 50 [.str s, .int .i64 (a : Int)] H = some (.ret (.str (reps s a)), H) := by
  have h1 : s.length * a ≤ 9 * 9 := Nat.mul_le_mul hs h
  rw [callN_own (P := P4) (g := ownRepeat) rfl, ownRepeat, if_pos (by rw [Int.toNat_natCast]; omega), Int.toNat_natCast]

/-- what the operations answer: the text, as far as it is short enough -/
def opZ (z : Int) : Str := if z.natAbs < 10 ^ 200 then decZ z else []
def opT (z : Int) : AV := .tuple [.str (opZ z), .bool (decide (z.natAbs < 10 ^ 200))]

/-- the upper limbs -/
def topV (l : List Nat) (r : Nat) : Nat := lval BB (l.drop (l.length - r))
def topS (l : List Nat) (r : Nat) : Str := if r = 0 then [] else decN (topV l r)

theorem topV_zero (l : List Nat) : topV l 0 = 0 := by simp [topV, lval]
theorem topV_all (l : List Nat) : topV l l.length = lval BB l := by simp [topV]
theorem topV_succ {l : List Nat} {r : Nat} (h : r < l.length) : topV l (r + 1) = atN l (l.length - (r + 1)) + BB * topV l r := by
  unfold topV
  have h1 : l.length - (r + 1) < l.length := by omega
  rw [List.drop_eq_getElem_cons h1, lval, show l.length - (r + 1) + 1 = l.length - r by omega]
  have := atN_at h1
  rw [List.getElem?_eq_getElem h1] at this
  simp only [Option.some.injEq] at this
  rw [this]
theorem topV_lt {l : List Nat} (hl : Under BB l) (r : Nat) : topV l r < BB ^ r := by
  have h1 := lval_lt (B := BB) (by decide) (l := l.drop (l.length - r)) fun x hx => hl x (List.mem_of_mem_drop hx)
  have h2 : BB ^ (l.drop (l.length - r)).length ≤ BB ^ r := Nat.pow_le_pow_right (by decide) (by rw [List.length_drop]; omega)
  unfold topV; omega
theorem topV_pos {l : List Nat} (hl : Last l) {r : Nat} (h0 : 0 < r) (h1 : r ≤ l.length) : 0 < topV l r := by
  rcases hl with rfl | ⟨a, d, rfl, hd⟩
  · simp at h1; omega
  · unfold topV
    rw [List.drop_append_of_le_length (by simp at h1 ⊢; omega), lval_snoc]
    have : BB ^ (a.drop ((a ++ [d]).length - r)).length * 1 ≤ BB ^ (a.drop ((a ++ [d]).length - r)).length * d := Nat.mul_le_mul_left _ (by omega)
    have h2 : 0 < BB ^ (a.drop ((a ++ [d]).length - r)).length := Nat.pow_pos (by decide)
    omega
theorem topS_zero (l : List Nat) : topS l 0 = [] := rfl
theorem topS_succ {l : List Nat} (r : Nat) : topS l (r + 1) = decN (topV l (r + 1)) := by unfold topS; rw [if_neg (by omega)]
theorem topS_len {l : List Nat} (hl : Under BB l) (r : Nat) : (topS l r).length ≤ 9 * r := by
  unfold topS
  split
  · simp
  · refine (decN_len_le (by omega)).2 ?_
    have h := topV_lt hl r
    have : BB ^ r = 10 ^ (9 * r) := by rw [Nat.pow_mul]
    omega
theorem decN_256 (n : Nat) : ∀ c ∈ decN n, c < 256 := fun c hc => by have := decN_digs n c hc; omega

set_option maxHeartbeats 4000000 in
theorem text32 (f neg : Bool) (a : Nat) (hl : (limbs BB a).length ≤ 900000) : Ret P4 32 [.agg [.bool neg, vN f (limbs BB a)]] (opT (if neg then -(a : Int) else (a : Int))) := by
  have hu := limbs_below BB2 a
  have hla := limbs_last BB2 a
  have hva := lval_limbs BB2 a
  refine Ret.of rfl (code32 _ _) rfl rfl (fun H => by simp -implicitDefEqProofs only [↓v_lenS, SB, POp.val, AOp.val, WOp.val, Lite.bin, intBin, strBin, eqv, eqMany, eq1, AV.asBool, AV.asInt, AV.asNat, AV.asPtr, AV.asStr, resVals, ResV.val, oneOr, wants, skipped, fillAt, putAt, capOf, optNat, bnd, Nat.reduceBEq, reduceIte, Nat.reduceAdd, Nat.reduceLeDiff, Nat.reduceEqDiff, Nat.reduceSub, Nat.reduceMul, Nat.reduceDiv, SOper.again, same, sameBlk, sameCap, Nat.reduceBneDiff, s_draw2, s_pair, k_pair, asunder, SOper.into, Bool.not_false, Bool.not_true, BS]) ?_
  refine (Ev.ge ((limbs BB a).length + 10)).mono fun n hge H => ?_
  obtain ⟨m, rfl⟩ : ∃ m, n = m + 2 := ⟨n - 2, by omega⟩
  have hna : (if neg then -(a : Int) else (a : Int)).natAbs = a := by split <;> simp
  by_cases h0 : a = 0
  · subst h0
    rw [limbs_zero]
    have hz : (((0 : Nat) : Int) == 0) = true := rfl
    have hr : opT (if neg = true then -((0 : Nat) : Int) else ((0 : Nat) : Int)) = .tuple [.str [48], .bool true] := by
      have : (if neg = true then -((0 : Nat) : Int) else ((0 : Nat) : Int)) = 0 := by cases neg <;> rfl
      rw [this]
      simp [opT, opZ, decZ, decN_small]
    rw [hr]
    simp -implicitDefEqProofs only [c32, ↓v_lenS, SB, POp.val, AOp.val, WOp.val, Lite.bin, intBin, strBin, eqv, eqMany, eq1, AV.asBool, AV.asInt, AV.asNat, AV.asPtr, AV.asStr, resVals, ResV.val, oneOr, wants, skipped, fillAt, putAt, capOf, optNat, bnd, Nat.reduceBEq, reduceIte, Nat.reduceAdd, Nat.reduceLeDiff, Nat.reduceEqDiff, Nat.reduceSub, Nat.reduceMul, Nat.reduceDiv, SOper.again, same, sameBlk, sameCap, Nat.reduceBneDiff, s_draw2, s_pair, k_pair, asunder, SOper.into, Bool.not_false, Bool.not_true, BS, vN_nil, hz, Ends, gives_ret]
    exact ⟨_, rfl⟩
  · have hpos : limbs BB a ≠ [] := fun e => by rw [e] at hva; simp [lval] at hva; omega
    have hlp := List.length_pos_iff.2 hpos
    have hz : (((limbs BB a).length : Int) == 0) = false := by simpa using hpos
    have hw0 : IntKind.i64.wrap (((limbs BB a).length : Int) - 1) = ((limbs BB a).length : Int) - 1 := wrap64 (by omega) (by omega)
    simp -implicitDefEqProofs only [c32, ↓v_lenS, SB, POp.val, AOp.val, WOp.val, Lite.bin, intBin, strBin, eqv, eqMany, eq1, AV.asBool, AV.asInt, AV.asNat, AV.asPtr, AV.asStr, resVals, ResV.val, oneOr, wants, skipped, fillAt, putAt, capOf, optNat, bnd, Nat.reduceBEq, reduceIte, Nat.reduceAdd, Nat.reduceLeDiff, Nat.reduceEqDiff, Nat.reduceSub, Nat.reduceMul, Nat.reduceDiv, SOper.again, same, sameBlk, sameCap, Nat.reduceBneDiff, s_draw2, s_pair, k_pair, asunder, SOper.into, Bool.not_false, Bool.not_true, BS, hz, hw0]
    generalize hL : limbs BB a = l at *
    refine loop_rounds l.length (fun r fr H => fr 1 = .ptr (.new 0) 0 ∧ fr 4 = .ptr (.new 1) 0 ∧ fr 5 = .int .i64 ((l.length : Int) - 1 - r) ∧ H.t.get 0 = some (.row [.bool neg, vN f l] 0 false (some 45)) ∧ HLow H ∧ Bld H 1 (topS l r)) ?_ ?_ (m + 2) 0 _ _ (by omega) (by omega) ?_
    · rintro r fr H K' hi ⟨h1, h4, h5, g0, low, hb⟩ hKe hKr hK
      obtain ⟨j, hj⟩ : ∃ j, j = l.length - (r + 1) := ⟨_, rfl⟩
      rw [show (l.length : Int) - 1 - (r : Int) = (j : Int) by omega] at h5
      rw [show (l.length : Int) - 1 - ((r + 1 : Nat) : Int) = (j : Int) - 1 by omega] at hK
      have hge0 : (j : Int) ≥ 0 := by omega
      have hw : IntKind.i64.wrap ((j : Int) - 1) = (j : Int) - 1 := wrap64 (by omega) (by omega)
      have ha := iaddr_vN (f := f) (atN_at (l := l) (i := j) (by omega))
      have hBB := BB_eq
      have a1 := atN_lt (by omega) hu j
      have hts := topV_succ hi
      rw [← hj] at hts
      rw [topS_succ, hts] at hK
      have hdl : (decN (atN l j)).length ≤ 9 := (decN_len_le (by omega)).2 a1
      have hi47 := fun (H : Heap) => itoa47 (n := m + 1) (a := atN l j) (H := H) (by omega)
      have hsl := topS_len hu r
      have hlen := fun (n : Nat) => len48 (n := n) hb
      by_cases hr : r = 0
      · subst hr
        rw [topV_zero, Nat.mul_zero, Nat.add_zero] at hK
        rw [topS_zero] at hb hlen
        have hn : ¬ ((0 : Nat) : Int) > 0 := by simp
        simp -implicitDefEqProofs only [c32_l0, ↓v_lenS, SB, POp.val, AOp.val, WOp.val, Lite.bin, intBin, strBin, eqv, eqMany, eq1, AV.asBool, AV.asInt, AV.asNat, AV.asPtr, AV.asStr, resVals, ResV.val, oneOr, wants, skipped, fillAt, putAt, capOf, optNat, bnd, Nat.reduceBEq, reduceIte, Nat.reduceAdd, Nat.reduceLeDiff, Nat.reduceEqDiff, Nat.reduceSub, Nat.reduceMul, Nat.reduceDiv, SOper.again, same, sameBlk, sameCap, Nat.reduceBneDiff, s_draw2, s_pair, k_pair, asunder, SOper.into, Bool.not_false, Bool.not_true, CL, BS, h1, h4, h5, hge0, g0, ha, hi47, hlen, hn]
        refine gives_call (write49 hb low (by simp; omega)) ?_
        rintro v H' ⟨hb', kp'⟩
        have g0' := kp'.get _ _ g0 (firmBut_row (by decide))
        simp -implicitDefEqProofs only [↓v_lenS, SB, POp.val, AOp.val, WOp.val, Lite.bin, intBin, strBin, eqv, eqMany, eq1, AV.asBool, AV.asInt, AV.asNat, AV.asPtr, AV.asStr, resVals, ResV.val, oneOr, wants, skipped, fillAt, putAt, capOf, optNat, bnd, Nat.reduceBEq, reduceIte, Nat.reduceAdd, Nat.reduceLeDiff, Nat.reduceEqDiff, Nat.reduceSub, Nat.reduceMul, Nat.reduceDiv, SOper.again, same, sameBlk, sameCap, Nat.reduceBneDiff, s_draw2, s_pair, k_pair, asunder, SOper.into, Bool.not_false, Bool.not_true, h5, hw]
        refine hK _ _ ⟨?_, ?_, ?_, g0', kp'.low low, by simpa using hb'⟩
        all_goals simp -implicitDefEqProofs only [↓v_lenS, SB, POp.val, AOp.val, WOp.val, Lite.bin, intBin, strBin, eqv, eqMany, eq1, AV.asBool, AV.asInt, AV.asNat, AV.asPtr, AV.asStr, resVals, ResV.val, oneOr, wants, skipped, fillAt, putAt, capOf, optNat, bnd, Nat.reduceBEq, reduceIte, Nat.reduceAdd, Nat.reduceLeDiff, Nat.reduceEqDiff, Nat.reduceSub, Nat.reduceMul, Nat.reduceDiv, SOper.again, same, sameBlk, sameCap, Nat.reduceBneDiff, s_draw2, s_pair, k_pair, asunder, SOper.into, Bool.not_false, Bool.not_true, h1, h4]
      · have hvp := topV_pos hla (r := r) (by omega) (by omega)
        rw [decN_cat hvp a1] at hK
        have htr : topS l r = decN (topV l r) := by unfold topS; rw [if_neg hr]
        rw [htr] at hb hlen hsl
        have hdp := List.length_pos_iff.2 (decN_ne (topV l r))
        generalize decN (topV l r) = S at *
        generalize decN (atN l j) = D at *
        have hn : ((S.length : Nat) : Int) > 0 := by omega
        have hw9 : IntKind.i64.wrap (9 - (D.length : Int)) = ((9 - D.length : Nat) : Int) := by rw [wrap64 (by omega) (by omega)]; omega
        have hrp := fun (H : Heap) => repeat50 (n := m + 1) (a := 9 - D.length) (s := [48]) (H := H) (by omega) (by simp)
        simp -implicitDefEqProofs only [c32_l0, ↓v_lenS, SB, POp.val, AOp.val, WOp.val, Lite.bin, intBin, strBin, eqv, eqMany, eq1, AV.asBool, AV.asInt, AV.asNat, AV.asPtr, AV.asStr, resVals, ResV.val, oneOr, wants, skipped, fillAt, putAt, capOf, optNat, bnd, Nat.reduceBEq, reduceIte, Nat.reduceAdd, Nat.reduceLeDiff, Nat.reduceEqDiff, Nat.reduceSub, Nat.reduceMul, Nat.reduceDiv, SOper.again, same, sameBlk, sameCap, Nat.reduceBneDiff, s_draw2, s_pair, k_pair, asunder, SOper.into, Bool.not_false, Bool.not_true, CL, BS, h1, h4, h5, hge0, g0, ha, hi47, hlen, hn, hw9, hrp]
        refine gives_call (write49 hb low (by rw [reps_len, List.length_singleton]; omega)) ?_
        rintro v H' ⟨hb', kp'⟩
        have g0' := kp'.get _ _ g0 (firmBut_row (by decide))
        simp -implicitDefEqProofs only [↓v_lenS, SB, POp.val, AOp.val, WOp.val, Lite.bin, intBin, strBin, eqv, eqMany, eq1, AV.asBool, AV.asInt, AV.asNat, AV.asPtr, AV.asStr, resVals, ResV.val, oneOr, wants, skipped, fillAt, putAt, capOf, optNat, bnd, Nat.reduceBEq, reduceIte, Nat.reduceAdd, Nat.reduceLeDiff, Nat.reduceEqDiff, Nat.reduceSub, Nat.reduceMul, Nat.reduceDiv, SOper.again, same, sameBlk, sameCap, Nat.reduceBneDiff, s_draw2, s_pair, k_pair, asunder, SOper.into, Bool.not_false, Bool.not_true, CL, h4, h5]
        refine gives_call (write49 hb' (kp'.low low) (by rw [List.length_append, reps_len, List.length_singleton]; omega)) ?_
        rintro v2 H2 ⟨hb2, kp2⟩
        have g02 := kp2.get _ _ g0' (firmBut_row (by decide))
        simp -implicitDefEqProofs only [↓v_lenS, SB, POp.val, AOp.val, WOp.val, Lite.bin, intBin, strBin, eqv, eqMany, eq1, AV.asBool, AV.asInt, AV.asNat, AV.asPtr, AV.asStr, resVals, ResV.val, oneOr, wants, skipped, fillAt, putAt, capOf, optNat, bnd, Nat.reduceBEq, reduceIte, Nat.reduceAdd, Nat.reduceLeDiff, Nat.reduceEqDiff, Nat.reduceSub, Nat.reduceMul, Nat.reduceDiv, SOper.again, same, sameBlk, sameCap, Nat.reduceBneDiff, s_draw2, s_pair, k_pair, asunder, SOper.into, Bool.not_false, Bool.not_true, h5, hw]
        refine hK _ _ ⟨?_, ?_, ?_, g02, kp2.low (kp'.low low), hb2⟩
        all_goals simp -implicitDefEqProofs only [↓v_lenS, SB, POp.val, AOp.val, WOp.val, Lite.bin, intBin, strBin, eqv, eqMany, eq1, AV.asBool, AV.asInt, AV.asNat, AV.asPtr, AV.asStr, resVals, ResV.val, oneOr, wants, skipped, fillAt, putAt, capOf, optNat, bnd, Nat.reduceBEq, reduceIte, Nat.reduceAdd, Nat.reduceLeDiff, Nat.reduceEqDiff, Nat.reduceSub, Nat.reduceMul, Nat.reduceDiv, SOper.again, same, sameBlk, sameCap, Nat.reduceBneDiff, s_draw2, s_pair, k_pair, asunder, SOper.into, Bool.not_false, Bool.not_true, h1, h4]
    · rintro fr H K' ⟨h1, h4, h5, g0, low, hb⟩ hKe hKr
      have hn0 : ¬ ((l.length : Int) - 1 - (l.length : Int)) ≥ 0 := by omega
      have htr : topS l l.length = decN a := by unfold topS; rw [if_neg (by omega), topV_all, hva]
      have hsl := topS_len hu l.length
      rw [htr] at hb hsl
      have hlen := len48 (n := m + 1) hb
      obtain ⟨H2, hstr⟩ := string51 (n := m + 1) hb (decN_256 a) (by omega)
      have hiff := decN_len_le (n := a) (k := 200) (by omega)
      have hcl : 1 + (decN a).length ≤ 4611686018427387904 := by omega
      have hcl' : 0 + 1 + (decN a).length ≤ 4611686018427387904 := by omega
      by_cases hsh : a < 10 ^ 200
      · have hgt : ¬ (((decN a).length : Nat) : Int) > 200 := by have := hiff.2 hsh; omega
        have hop : opT (if neg then -(a : Int) else (a : Int)) = .tuple [.str (if neg then 45 :: decN a else decN a), .bool true] := by
          unfold opT opZ
          rw [hna, if_pos hsh, decide_eq_true hsh]
          cases neg with
          | true => simp only [if_true]; rw [decZ_neg (by omega)]
          | false => simp only [Bool.false_eq_true, if_false]; rw [decZ_nonneg]
        rw [hop]
        cases neg with
        | true =>
          simp -implicitDefEqProofs only [c32_l0, ↓v_lenS, SB, POp.val, AOp.val, WOp.val, Lite.bin, intBin, strBin, eqv, eqMany, eq1, AV.asBool, AV.asInt, AV.asNat, AV.asPtr, AV.asStr, resVals, ResV.val, oneOr, wants, skipped, fillAt, putAt, capOf, optNat, bnd, Nat.reduceBEq, reduceIte, Nat.reduceAdd, Nat.reduceLeDiff, Nat.reduceEqDiff, Nat.reduceSub, Nat.reduceMul, Nat.reduceDiv, SOper.again, same, sameBlk, sameCap, Nat.reduceBneDiff, s_draw2, s_pair, k_pair, asunder, SOper.into, Bool.not_false, Bool.not_true, CL, h1, h4, h5, hn0, hKe, k_blockE, hlen, hgt, g0, hstr, hcl, hcl', gives_ret]
          exact ⟨_, rfl⟩
        | false =>
          simp -implicitDefEqProofs only [c32_l0, ↓v_lenS, SB, POp.val, AOp.val, WOp.val, Lite.bin, intBin, strBin, eqv, eqMany, eq1, AV.asBool, AV.asInt, AV.asNat, AV.asPtr, AV.asStr, resVals, ResV.val, oneOr, wants, skipped, fillAt, putAt, capOf, optNat, bnd, Nat.reduceBEq, reduceIte, Nat.reduceAdd, Nat.reduceLeDiff, Nat.reduceEqDiff, Nat.reduceSub, Nat.reduceMul, Nat.reduceDiv, SOper.again, same, sameBlk, sameCap, Nat.reduceBneDiff, s_draw2, s_pair, k_pair, asunder, SOper.into, Bool.not_false, Bool.not_true, CL, h1, h4, h5, hn0, hKe, k_blockE, hlen, hgt, g0, hstr, gives_ret, Bool.false_eq_true, if_false]
          exact ⟨_, rfl⟩
      · have hgt : (((decN a).length : Nat) : Int) > 200 := by
          have : ¬ (decN a).length ≤ 200 := fun h => hsh (hiff.1 h)
          omega
        have hop : opT (if neg then -(a : Int) else (a : Int)) = .tuple [.str [], .bool false] := by
          unfold opT opZ
          rw [hna, if_neg hsh, decide_eq_false hsh]
        rw [hop]
        simp -implicitDefEqProofs only [c32_l0, ↓v_lenS, SB, POp.val, AOp.val, WOp.val, Lite.bin, intBin, strBin, eqv, eqMany, eq1, AV.asBool, AV.asInt, AV.asNat, AV.asPtr, AV.asStr, resVals, ResV.val, oneOr, wants, skipped, fillAt, putAt, capOf, optNat, bnd, Nat.reduceBEq, reduceIte, Nat.reduceAdd, Nat.reduceLeDiff, Nat.reduceEqDiff, Nat.reduceSub, Nat.reduceMul, Nat.reduceDiv, SOper.again, same, sameBlk, sameCap, Nat.reduceBneDiff, s_draw2, s_pair, k_pair, asunder, SOper.into, Bool.not_false, Bool.not_true, CL, h1, h4, h5, hn0, hKe, k_blockE, hlen, hgt, gives_ret]
        exact ⟨_, rfl⟩
    · refine ⟨?_, ?_, ?_, ?_, HLow.bare.push.push, .nilp, .nils, .inl rfl, ?_, ?_⟩
      any_goals simp -implicitDefEqProofs only [↓v_lenS, SB, POp.val, AOp.val, WOp.val, Lite.bin, intBin, strBin, eqv, eqMany, eq1, AV.asBool, AV.asInt, AV.asNat, AV.asPtr, AV.asStr, resVals, ResV.val, oneOr, wants, skipped, fillAt, putAt, capOf, optNat, bnd, Nat.reduceBEq, reduceIte, Nat.reduceAdd, Nat.reduceLeDiff, Nat.reduceEqDiff, Nat.reduceSub, Nat.reduceMul, Nat.reduceDiv, SOper.again, same, sameBlk, sameCap, Nat.reduceBneDiff, s_draw2, s_pair, k_pair, asunder, SOper.into, Bool.not_false, Bool.not_true]
      · simp
      · exact Acc.nil

end Go.Lite

/-
  Sums, differences, comparisons of numbers' texts, as the program does them.
-/
namespace Go.Lite
open Go Go.Proofs
set_option maxRecDepth 100000
set_option linter.unusedSimpArgs false
set_option linter.unusedVariables false

def valZ (neg : Bool) (n : Nat) : Int := if neg then -(n : Int) else (n : Int)
theorem valZ_abs (z : Int) : valZ (decide (z < 0)) z.natAbs = z := by
  unfold valZ
  by_cases h : z < 0
  · rw [decide_eq_true h, if_pos rfl]; omega
  · rw [decide_eq_false h, if_neg (by simp)]; omega

/-- a signed sum -/
def sumS (p : Bool) (a : Nat) (q : Bool) (b : Nat) : Bool × Nat := if p = q then (p, a + b) else if a < b then (q, b - a) else (p, a - b)
theorem sumS_val (p : Bool) (a : Nat) (q : Bool) (b : Nat) : valZ (sumS p a q b).1 (sumS p a q b).2 = valZ p a + valZ q b := by
  unfold sumS valZ
  by_cases h : p = q
  · subst h; rw [if_pos rfl]; cases p <;> simp <;> omega
  · rw [if_neg h]
    by_cases hl : a < b
    · rw [if_pos hl]; cases p <;> cases q <;> simp at h ⊢ <;> omega
    · rw [if_neg hl]; cases p <;> cases q <;> simp at h ⊢ <;> omega
theorem sumS_le (p : Bool) (a : Nat) (q : Bool) (b : Nat) : (sumS p a q b).2 ≤ a + b := by
  unfold sumS; split
  · exact Nat.le_refl _
  · split <;> simp <;> omega

theorem limbs_small {n k m : Nat} (h : n < 10 ^ k) (hk : k ≤ 9 * m) : (limbs BB n).length ≤ m := by
  refine limbs_len_le BB2 (Nat.lt_of_lt_of_le h ?_)
  have : BB ^ m = 10 ^ (9 * m) := by rw [Nat.pow_mul]
  rw [this]
  exact Nat.pow_le_pow_right (by omega) hk

theorem limbs_mono {a b : Nat} (h : a ≤ b) : (limbs BB a).length ≤ (limbs BB b).length := limbs_len_le BB2 (Nat.lt_of_le_of_lt h (limbs_lt_iff BB2 b))

theorem negS_decZ (z : Int) : negS (decZ z) = decide (z < 0) := by
  unfold decZ
  by_cases h : z < 0
  · rw [if_pos h, decide_eq_true h]; rfl
  · rw [if_neg h, decide_eq_false h]
    obtain ⟨c, h1, h2, h3⟩ := decN_first z.natAbs
    cases hd : decN z.natAbs with
    | nil => rfl
    | cons d t =>
      rw [hd] at h1
      simp at h1
      subst h1
      simp [negS]; omega
theorem cutS_decZ (z : Int) : cutS (decZ z) = decN z.natAbs := by
  unfold decZ
  by_cases h : z < 0
  · rw [if_pos h]; simp [cutS]
  · rw [if_neg h]
    obtain ⟨c, h1, h2, h3⟩ := decN_first z.natAbs
    cases hd : decN z.natAbs with
    | nil => rfl
    | cons d t =>
      rw [hd] at h1
      simp at h1
      subst h1
      simp [cutS]; omega

theorem decZ_len {z : Int} {k : Nat} (h : z.natAbs < 10 ^ k) (hk : 0 < k) : (decZ z).length ≤ k + 1 := by
  have := (decN_len_le hk).2 h
  unfold decZ; split <;> simp <;> omega

/-- a number as the program holds it -/
def numV (z : Int) : AV := .agg [.bool (decide (z < 0)), vN true (limbs BB z.natAbs)]

theorem load30z (z : Int) {k : Nat} (h : z.natAbs < 10 ^ k) (hk : k ≤ 2000) : Ret P4 30 [.str (decZ z)] (numV z) := by
  have h1 : z.natAbs < 10 ^ (k + 1) := Nat.lt_of_lt_of_le h (Nat.pow_le_pow_right (by omega) (by omega))
  have := load30 (decZ z) (by rw [cutS_decZ]; exact decN_digs _) (by have := decZ_len h1 (by omega); omega)
  rwa [negS_decZ, cutS_decZ, dval_decN] at this

theorem sum31 (p q f g : Bool) (a b : Nat) (ha : (limbs BB a).length ≤ 800000) (hb : (limbs BB b).length ≤ 800000) :
    Ret P4 31 [.agg [.bool p, vN f (limbs BB a)], .agg [.bool q, vN g (limbs BB b)]] (.agg [.bool (sumS p a q b).1, vN true (limbs BB (sumS p a q b).2)]) := by
  have hua := limbs_below BB2 a
  have hub := limbs_below BB2 b
  have hva := lval_limbs BB2 a
  have hvb := lval_limbs BB2 b
  refine Ret.of rfl (code31 _ _) rfl rfl (fun H => by simp -implicitDefEqProofs only [↓v_lenS, SB, POp.val, AOp.val, WOp.val, Lite.bin, intBin, strBin, eqv, eqMany, eq1, AV.asBool, AV.asInt, AV.asNat, AV.asPtr, AV.asStr, resVals, ResV.val, oneOr, wants, skipped, fillAt, putAt, capOf, optNat, bnd, Nat.reduceBEq, reduceIte, Nat.reduceAdd, Nat.reduceLeDiff, Nat.reduceEqDiff, Nat.reduceSub, Nat.reduceMul, Nat.reduceDiv, SOper.again, same, sameBlk, sameCap, Nat.reduceBneDiff, s_draw2, s_pair, k_pair, asunder, SOper.into, Bool.not_false, Bool.not_true, BS]) ?_
  have c38' := compare38 f g _ _ hua hub (limbs_last BB2 a) (limbs_last BB2 b) (by omega) (by omega)
  have c37' := plus37 f g _ _ hua hub (by omega) (by omega)
  rw [hva, hvb] at c38' c37'
  by_cases hl : a < b
  · have c39' := less39 g f _ _ hub hua (by omega) (limbs_mono (by omega)) (by omega)
    rw [hva, hvb] at c39'
    refine (c37'.and (c38'.and c39')).mono fun n e H => ?_
    obtain ⟨e1, e2, e3⟩ := e
    have hc : cmpN a b = -1 := by rw [cmpN, if_pos hl]
    rw [hc] at e2
    have h1 : ((-1 : Int) < 0) = True := by simp
    cases p <;> cases q <;> simp only [sumS, reduceIte, hl, Bool.false_eq_true, Bool.true_eq_false]
    all_goals simp -implicitDefEqProofs only [c31, ↓v_lenS, SB, POp.val, AOp.val, WOp.val, Lite.bin, intBin, strBin, eqv, eqMany, eq1, AV.asBool, AV.asInt, AV.asNat, AV.asPtr, AV.asStr, resVals, ResV.val, oneOr, wants, skipped, fillAt, putAt, capOf, optNat, bnd, Nat.reduceBEq, reduceIte, Nat.reduceAdd, Nat.reduceLeDiff, Nat.reduceEqDiff, Nat.reduceSub, Nat.reduceMul, Nat.reduceDiv, SOper.again, same, sameBlk, sameCap, Nat.reduceBneDiff, s_draw2, s_pair, k_pair, asunder, SOper.into, Bool.not_false, Bool.not_true, CL, BS, e1, e2, e3, h1, Ends, gives_ret]
    all_goals exact ⟨_, rfl⟩
  · have c39' := less39 f g _ _ hua hub (by omega) (limbs_mono (by omega)) (by omega)
    rw [hva, hvb] at c39'
    refine (c37'.and (c38'.and c39')).mono fun n e H => ?_
    obtain ⟨e1, e2, e3⟩ := e
    have hc : ¬ cmpN a b < 0 := by rw [cmpN, if_neg hl]; split <;> omega
    generalize cmpN a b = c at *
    cases p <;> cases q <;> simp only [sumS, reduceIte, hl, Bool.false_eq_true, Bool.true_eq_false]
    all_goals simp -implicitDefEqProofs only [c31, ↓v_lenS, SB, POp.val, AOp.val, WOp.val, Lite.bin, intBin, strBin, eqv, eqMany, eq1, AV.asBool, AV.asInt, AV.asNat, AV.asPtr, AV.asStr, resVals, ResV.val, oneOr, wants, skipped, fillAt, putAt, capOf, optNat, bnd, Nat.reduceBEq, reduceIte, Nat.reduceAdd, Nat.reduceLeDiff, Nat.reduceEqDiff, Nat.reduceSub, Nat.reduceMul, Nat.reduceDiv, SOper.again, same, sameBlk, sameCap, Nat.reduceBneDiff, s_draw2, s_pair, k_pair, asunder, SOper.into, Bool.not_false, Bool.not_true, CL, BS, e1, e2, e3, hc, Ends, gives_ret]
    all_goals exact ⟨_, rfl⟩

theorem sum31z (x y : Int) (f : Bool) {k : Nat} (hx : x.natAbs < 10 ^ k) (hy : y.natAbs < 10 ^ k) (hk : k ≤ 2000) :
    ∃ s c, Ret P4 31 [numV x, .agg [.bool (decide (y < 0)), vN f (limbs BB y.natAbs)]] (.agg [.bool s, vN true (limbs BB c)]) ∧ valZ s c = x + y ∧ (limbs BB c).length ≤ 1000 := by
  refine ⟨_, _, sum31 _ _ true f _ _ (Nat.le_trans (limbs_small hx (m := 500) (by omega)) (by omega)) (Nat.le_trans (limbs_small hy (m := 500) (by omega)) (by omega)), ?_, ?_⟩
  · rw [sumS_val, valZ_abs, valZ_abs]
  · have h1 := sumS_le (decide (x < 0)) x.natAbs (decide (y < 0)) y.natAbs
    have h2 : (10 : Nat) ^ (k + 1) = 10 ^ k * 10 := Nat.pow_succ ..
    exact limbs_small (k := k + 1) (by omega) (by omega)

theorem text32z {s : Bool} {c : Nat} {z : Int} (h : valZ s c = z) (hl : (limbs BB c).length ≤ 1000) : Ret P4 32 [.agg [.bool s, vN true (limbs BB c)]] (opT z) := by
  rw [← h]; exact text32 true s c (by omega)

theorem add21 (x y : Int) {k : Nat} (hx : x.natAbs < 10 ^ k) (hy : y.natAbs < 10 ^ k) (hk : k ≤ 2000) : Ret P4 21 [.str (decZ x), .str (decZ y)] (opT (x + y)) := by
  obtain ⟨s, c, e3, hv, hl⟩ := sum31z x y true hx hy hk
  refine Ret.of rfl (code21 _ _) rfl rfl (fun H => by simp -implicitDefEqProofs only [↓v_lenS, SB, POp.val, AOp.val, WOp.val, Lite.bin, intBin, strBin, eqv, eqMany, eq1, AV.asBool, AV.asInt, AV.asNat, AV.asPtr, AV.asStr, resVals, ResV.val, oneOr, wants, skipped, fillAt, putAt, capOf, optNat, bnd, Nat.reduceBEq, reduceIte, Nat.reduceAdd, Nat.reduceLeDiff, Nat.reduceEqDiff, Nat.reduceSub, Nat.reduceMul, Nat.reduceDiv, SOper.again, same, sameBlk, sameCap, Nat.reduceBneDiff, s_draw2, s_pair, k_pair, asunder, SOper.into, Bool.not_false, Bool.not_true]) ?_
  refine ((load30z x hx hk).and ((load30z y hy hk).and (e3.and (text32z hv hl)))).mono fun n e H => ?_
  obtain ⟨e1, e2, e3, e4⟩ := e
  unfold opT at e4 ⊢
  unfold numV at e1 e2 e3
  simp -implicitDefEqProofs only [c21, ↓v_lenS, SB, POp.val, AOp.val, WOp.val, Lite.bin, intBin, strBin, eqv, eqMany, eq1, AV.asBool, AV.asInt, AV.asNat, AV.asPtr, AV.asStr, resVals, ResV.val, oneOr, wants, skipped, fillAt, putAt, capOf, optNat, bnd, Nat.reduceBEq, reduceIte, Nat.reduceAdd, Nat.reduceLeDiff, Nat.reduceEqDiff, Nat.reduceSub, Nat.reduceMul, Nat.reduceDiv, SOper.again, same, sameBlk, sameCap, Nat.reduceBneDiff, s_draw2, s_pair, k_pair, asunder, SOper.into, Bool.not_false, Bool.not_true, CL, BS, e1, e2, e3, e4, Ends, gives_ret]
  exact ⟨_, rfl⟩

theorem neg_flag {y : Int} (b : Bool) : valZ (!decide (y < 0)) y.natAbs = -y := by
  unfold valZ
  by_cases h : y < 0
  · rw [decide_eq_true h, Bool.not_true, if_neg (by simp)]; omega
  · rw [decide_eq_false h, Bool.not_false, if_pos rfl]; omega

theorem sub18 (x y : Int) {k : Nat} (hx : x.natAbs < 10 ^ k) (hy : y.natAbs < 10 ^ k) (hk : k ≤ 2000) : Ret P4 18 [.str (decZ x), .str (decZ y)] (opT (x - y)) := by
  have e3 := sum31 (decide (x < 0)) (!decide (y < 0)) true true x.natAbs y.natAbs (Nat.le_trans (limbs_small hx (m := 500) (by omega)) (by omega)) (Nat.le_trans (limbs_small hy (m := 500) (by omega)) (by omega))
  have hv := sumS_val (decide (x < 0)) x.natAbs (!decide (y < 0)) y.natAbs
  rw [valZ_abs, neg_flag true] at hv
  have h1 := sumS_le (decide (x < 0)) x.natAbs (!decide (y < 0)) y.natAbs
  have h2 : (10 : Nat) ^ (k + 1) = 10 ^ k * 10 := Nat.pow_succ ..
  have hl : (limbs BB (sumS (decide (x < 0)) x.natAbs (!decide (y < 0)) y.natAbs).2).length ≤ 1000 := limbs_small (k := k + 1) (by omega) (by omega)
  generalize sumS (decide (x < 0)) x.natAbs (!decide (y < 0)) y.natAbs = r at *
  refine Ret.of rfl (code18 _ _) rfl rfl (fun H => by simp -implicitDefEqProofs only [↓v_lenS, SB, POp.val, AOp.val, WOp.val, Lite.bin, intBin, strBin, eqv, eqMany, eq1, AV.asBool, AV.asInt, AV.asNat, AV.asPtr, AV.asStr, resVals, ResV.val, oneOr, wants, skipped, fillAt, putAt, capOf, optNat, bnd, Nat.reduceBEq, reduceIte, Nat.reduceAdd, Nat.reduceLeDiff, Nat.reduceEqDiff, Nat.reduceSub, Nat.reduceMul, Nat.reduceDiv, SOper.again, same, sameBlk, sameCap, Nat.reduceBneDiff, s_draw2, s_pair, k_pair, asunder, SOper.into, Bool.not_false, Bool.not_true]) ?_
  refine ((load30z x hx hk).and ((load30z y hy hk).and (e3.and (text32z (s := r.1) (c := r.2) (z := x - y) (by rw [hv]; omega) hl)))).mono fun n e H => ?_
  obtain ⟨e1, e2, e3, e4⟩ := e
  unfold opT at e4 ⊢
  unfold numV at e1 e2
  simp -implicitDefEqProofs only [c18, ↓v_lenS, SB, POp.val, AOp.val, WOp.val, Lite.bin, intBin, strBin, eqv, eqMany, eq1, AV.asBool, AV.asInt, AV.asNat, AV.asPtr, AV.asStr, resVals, ResV.val, oneOr, wants, skipped, fillAt, putAt, capOf, optNat, bnd, Nat.reduceBEq, reduceIte, Nat.reduceAdd, Nat.reduceLeDiff, Nat.reduceEqDiff, Nat.reduceSub, Nat.reduceMul, Nat.reduceDiv, SOper.again, same, sameBlk, sameCap, Nat.reduceBneDiff, s_draw2, s_pair, k_pair, asunder, SOper.into, Bool.not_false, Bool.not_true, CL, BS, e1, e2, e3, e4, Ends, gives_ret]
  exact ⟨_, rfl⟩

theorem cmp19 (x y : Int) {k : Nat} (hx : x.natAbs < 10 ^ k) (hy : y.natAbs < 10 ^ k) (hk : k ≤ 2000) : Ret P4 19 [.str (decZ x), .str (decZ y)] (.int .i64 (sgn (x - y))) := by
  have e3 := sum31 (decide (x < 0)) (!decide (y < 0)) true true x.natAbs y.natAbs (Nat.le_trans (limbs_small hx (m := 500) (by omega)) (by omega)) (Nat.le_trans (limbs_small hy (m := 500) (by omega)) (by omega))
  have hv := sumS_val (decide (x < 0)) x.natAbs (!decide (y < 0)) y.natAbs
  rw [valZ_abs, neg_flag true] at hv
  have hly := limbs_small hy (m := 500) (by omega)
  have hc33 : Ev fun n => ∀ H : Heap, callN P4 n 33 [vN true (limbs BB y.natAbs)] H = some (.ret (vN true (limbs BB y.natAbs)), H) := Ev.succ (Ev.of fun n H => by
    rw [callN_own (P := P4) (g := ownClone 1 8) rfl]
    exact ownClone_list nat1_len nat1_still nat1_flat (by omega) (by omega))
  generalize sumS (decide (x < 0)) x.natAbs (!decide (y < 0)) y.natAbs = r at *
  obtain ⟨s, c⟩ := r
  refine Ret.of rfl (code19 _ _) rfl rfl (fun H => by simp -implicitDefEqProofs only [↓v_lenS, SB, POp.val, AOp.val, WOp.val, Lite.bin, intBin, strBin, eqv, eqMany, eq1, AV.asBool, AV.asInt, AV.asNat, AV.asPtr, AV.asStr, resVals, ResV.val, oneOr, wants, skipped, fillAt, putAt, capOf, optNat, bnd, Nat.reduceBEq, reduceIte, Nat.reduceAdd, Nat.reduceLeDiff, Nat.reduceEqDiff, Nat.reduceSub, Nat.reduceMul, Nat.reduceDiv, SOper.again, same, sameBlk, sameCap, Nat.reduceBneDiff, s_draw2, s_pair, k_pair, asunder, SOper.into, Bool.not_false, Bool.not_true]) ?_
  refine ((load30z x hx hk).and ((load30z y hy hk).and (e3.and hc33))).mono fun n e H => ?_
  obtain ⟨e1, e2, e3, e4⟩ := e
  unfold numV at e1 e2
  simp only at hv e3
  by_cases h0 : c = 0
  · have hz : (((limbs BB c).length : Int) == 0) = true := by rw [h0, limbs_zero]; rfl
    have hs : sgn (x - y) = 0 := by
      have : x - y = 0 := by unfold valZ at hv; split at hv <;> omega
      rw [this]; rfl
    rw [hs]
    simp -implicitDefEqProofs only [c19, ↓v_lenS, SB, POp.val, AOp.val, WOp.val, Lite.bin, intBin, strBin, eqv, eqMany, eq1, AV.asBool, AV.asInt, AV.asNat, AV.asPtr, AV.asStr, resVals, ResV.val, oneOr, wants, skipped, fillAt, putAt, capOf, optNat, bnd, Nat.reduceBEq, reduceIte, Nat.reduceAdd, Nat.reduceLeDiff, Nat.reduceEqDiff, Nat.reduceSub, Nat.reduceMul, Nat.reduceDiv, SOper.again, same, sameBlk, sameCap, Nat.reduceBneDiff, s_draw2, s_pair, k_pair, asunder, SOper.into, Bool.not_false, Bool.not_true, CL, BS, e1, e2, e3, e4, hz, Ends, gives_ret]
    exact ⟨_, rfl⟩
  · have hz : (((limbs BB c).length : Int) == 0) = false := by
      rw [limbs_pos BB2 (by omega)]; simp; omega
    cases s with
    | true =>
      have hs : sgn (x - y) = -1 := sgn_neg (by unfold valZ at hv; simp at hv; omega)
      rw [hs]
      simp -implicitDefEqProofs only [c19, ↓v_lenS, SB, POp.val, AOp.val, WOp.val, Lite.bin, intBin, strBin, eqv, eqMany, eq1, AV.asBool, AV.asInt, AV.asNat, AV.asPtr, AV.asStr, resVals, ResV.val, oneOr, wants, skipped, fillAt, putAt, capOf, optNat, bnd, Nat.reduceBEq, reduceIte, Nat.reduceAdd, Nat.reduceLeDiff, Nat.reduceEqDiff, Nat.reduceSub, Nat.reduceMul, Nat.reduceDiv, SOper.again, same, sameBlk, sameCap, Nat.reduceBneDiff, s_draw2, s_pair, k_pair, asunder, SOper.into, Bool.not_false, Bool.not_true, CL, BS, e1, e2, e3, e4, hz, Ends, gives_ret]
      exact ⟨_, rfl⟩
    | false =>
      have hs : sgn (x - y) = 1 := sgn_pos (by unfold valZ at hv; simp at hv; omega)
      rw [hs]
      simp -implicitDefEqProofs only [c19, ↓v_lenS, SB, POp.val, AOp.val, WOp.val, Lite.bin, intBin, strBin, eqv, eqMany, eq1, AV.asBool, AV.asInt, AV.asNat, AV.asPtr, AV.asStr, resVals, ResV.val, oneOr, wants, skipped, fillAt, putAt, capOf, optNat, bnd, Nat.reduceBEq, reduceIte, Nat.reduceAdd, Nat.reduceLeDiff, Nat.reduceEqDiff, Nat.reduceSub, Nat.reduceMul, Nat.reduceDiv, SOper.again, same, sameBlk, sameCap, Nat.reduceBneDiff, s_draw2, s_pair, k_pair, asunder, SOper.into, Bool.not_false, Bool.not_true, CL, BS, e1, e2, e3, e4, hz, Ends, gives_ret]
      exact ⟨_, rfl⟩

end Go.Lite

/-
  What every law asks first: four sums that are known.
-/
namespace Go.Lite
open Go Go.Proofs
set_option maxRecDepth 100000
set_option linter.unusedSimpArgs false
set_option linter.unusedVariables false

theorem dec_ten {n d : Nat} {s : Str} (hs : decN n = s) (hn : 0 < n) (hd : d < 10) : decN (10 * n + d) = s ++ [48 + d] := by rw [decN_step hn hd, hs]

theorem z999 : decZ 999 = [57, 57, 57] := by
  have h1 : decN 9 = [57] := decN_small (by omega)
  have h2 : decN 99 = [57, 57] := dec_ten (n := 9) (d := 9) h1 (by omega) (by omega)
  have h3 : decN 999 = [57, 57, 57] := dec_ten (n := 99) (d := 9) h2 (by omega) (by omega)
  rw [show (999 : Int) = ((999 : Nat) : Int) from rfl, decZ_nonneg, h3]
theorem z2 : decZ 2 = [50] := by rw [show (2 : Int) = ((2 : Nat) : Int) from rfl, decZ_nonneg]; exact decN_small (by omega)
theorem zm3 : decZ (-3) = [45, 51] := by
  rw [show (-3 : Int) = -((3 : Nat) : Int) from rfl, decZ_neg (by omega)]
  rw [decN_small (by omega)]
theorem z1001 : decZ 1001 = [49, 48, 48, 49] := by
  have h1 : decN 1 = [49] := decN_small (by omega)
  have h2 : decN 10 = [49, 48] := dec_ten (n := 1) (d := 0) h1 (by omega) (by omega)
  have h3 : decN 100 = [49, 48, 48] := dec_ten (n := 10) (d := 0) h2 (by omega) (by omega)
  have h4 : decN 1001 = [49, 48, 48, 49] := dec_ten (n := 100) (d := 1) h3 (by omega) (by omega)
  rw [show (1001 : Int) = ((1001 : Nat) : Int) from rfl, decZ_nonneg, h4]

theorem known13 : Ret P4 13 [] (.bool true) := by
  refine Ret.of rfl (code13 _ _) rfl rfl (fun H => rfl) ?_
  have e1 := add21 999 2 (k := 10) (by decide) (by decide) (by omega)
  have e2 := cmp19 2 (-3) (k := 10) (by decide) (by decide) (by omega)
  have o1 : opT (999 + 2) = .tuple [.str [49, 48, 48, 49], .bool true] := by
    show opT 1001 = _
    unfold opT opZ
    rw [if_pos (by decide), z1001, decide_eq_true (by decide)]
  have o2 : sgn (2 - (-3)) = 1 := rfl
  rw [o1, z999, z2] at e1
  rw [o2, z2, zm3] at e2
  have e3 := right16 [45, 48] (by decide)
  have e4 := right16 [48] (by decide)
  rw [show rightB [45, 48] = false from rfl] at e3
  rw [show rightB [48] = true from rfl] at e4
  refine (e1.and (e2.and (e3.and e4))).mono fun n e H => ?_
  obtain ⟨e1, e2, e3, e4⟩ := e
  have hb : (([49, 48, 48, 49] : List Nat) == [49, 48, 48, 49]) = true := rfl
  have hb1 : ((1 : Int) == 1) = true := rfl
  simp -implicitDefEqProofs only [c13, ↓v_lenS, SB, POp.val, AOp.val, WOp.val, Lite.bin, intBin, strBin, eqv, eqMany, eq1, AV.asBool, AV.asInt, AV.asNat, AV.asPtr, AV.asStr, resVals, ResV.val, oneOr, wants, skipped, fillAt, putAt, capOf, optNat, bnd, Nat.reduceBEq, reduceIte, Nat.reduceAdd, Nat.reduceLeDiff, Nat.reduceEqDiff, Nat.reduceSub, Nat.reduceMul, Nat.reduceDiv, SOper.again, same, sameBlk, sameCap, Nat.reduceBneDiff, s_draw2, s_pair, k_pair, asunder, SOper.into, Bool.not_false, Bool.not_true, CL, e1, e2, e3, e4, hb, hb1, Ends, gives_ret]
  exact ⟨_, rfl⟩

end Go.Lite

/-
  A law's call, from the interpreter's run; a row that lists variables, of which one is read.
-/
namespace Go.Lite
open Go Go.Proofs Go.RowKit
set_option linter.unusedVariables false
set_option linter.unusedSimpArgs false

/-- a row's road: what is listed, what is sized, the world's shape -/
theorem returns_laid {H : Type} {enc : TypeId × Value → H} {a : Assume} {C : Checked} {os : Os} {f : FuncId} {fn : Func} {s : ChangeSpec} {conds : List PathCond} {apart fresh handsOn again : Bool} {X : World → Array Value → Prop}
    (own : ownKnob C.prog.godebug = none) (started : os.Started) (noInit : C.prog.inits.idxOf? f = none) (hfn : C.prog.funcs[f]? = some fn)
    (witness : ∃ (w : World) (tape : Tape) (i : Input), w.os = os ∧ (w.forCall tape i).Shaped C.prog ∧ i.vars = [] ∧ Input.okWide C.prog (w.forCall tape i) .any w.heap.size f i ∧
      ((s.pre enc C.prog fn conds apart (w.forCall tape i).memory i.args ∧ X (w.forCall tape i).memory i.args) ∧ sizedMet enc C.prog fn (OpenSpec.ofChange s) apart (w.forCall tape i).memory i.args) ∧ a.holds C.prog (lone (Frame.enter C.prog f i.args .normal) [] (w.forCall tape i)))
    (contract : ∀ (W : World) (base : Nat) (args : Array Value) (ds gs : List (DataW H)) (before : List MemPlace),
      (∀ (j : Nat) t v, fn.params[j]? = some t → args[j]? = some v → Value.okWide C.prog W .any base t v) →
      DataW.Whole enc C.prog fn.params.toList s.vars apart W args.toList ds gs before →
      conds.all (PathCond.test C.prog ⟨fn.params.toList, ds, s.plain.varTypes C.prog, gs⟩) = true →
      (DataW.weightsEach C.prog (fn.params.toList ++ s.plain.varTypes C.prog) (ds ++ gs)).all (· ≤ reachBytes) = true →
      W.ShapedOpen C.prog → X W.memory args →
      a.holds C.prog (lone (Frame.enter C.prog f args .normal) [] W) →
      Calls C.prog f args W fun e W' => ∃ v, e = .returned v ∧ s.post enc C.prog fn apart fresh handsOn again W args v W') :
    ReturnsInHanded a C os f .any (fun w args => (s.pre enc C.prog fn conds apart w args ∧ X w args) ∧ sizedMet enc C.prog fn (OpenSpec.ofChange s) apart w args) (s.post enc C.prog fn apart fresh handsOn again) := by
  refine returnsInHanded_of_calls own started noInit witness ?_
  intro w tape i _ hsh _ hok hpre hholds
  obtain ⟨_, _, _, fn', hfn', _, _, _, _, hval⟩ := hok
  have e : fn' = fn := Option.some.inj (hfn'.symm.trans hfn)
  subst e
  obtain ⟨⟨⟨ds, gs, before, hw, hc⟩, hx⟩, hz⟩ := hpre
  have hw' := DataW.Whole.of_heap (w' := w.forCall tape i) (by rfl) hw
  refine (contract (w.forCall tape i) w.heap.size i.args ds gs before hval hw' hc (hz.weights hw) hsh hx hholds).mono fun e W' ⟨v, he, hp⟩ => ?_
  subst he
  exact ChangeSpec.post_blind hp

theorem tab_of_laid {W : World} {a b : DataW Unit} (h : laidMet Tryd.prog [("math/bits.deBruijn32tab", a), ("math/bits.deBruijn64tab", b), ("internal/strconv.uint64pow10", Go.Proofs.YtpnbhbacpkoddaaDoor.Rows.laid_internal_strconv_uint64pow10)] W.memory) : TabAt W := by
  have h2 := h.filter fun x => x.1 == "internal/strconv.uint64pow10"
  have h3 : laidMet Tryd.prog [("internal/strconv.uint64pow10", Lib.tabData .u64 Lib.pow10Tab)] W.memory := h2
  have h4 := Lib.tabIs_of_head (g := 0) (t := 92) (e := 82) (n := 20) (by kernel_rfl) (by kernel_rfl) (by kernel_rfl) (by kernel_rfl) (by kernel_rfl) (by kernel_rfl) h3
  exact h4

theorem own4_ok {nb : NB} (hgl : (Tryd.prog).globals.size ≤ nb.n) (hT : ∀ w, nb.inv w → TabAt w) : ∀ f g, own4 f = some g → OwnOk Tryd.prog nb f g := by
  intro f g h
  unfold own4 at h
  cases h1 : Nat.beq f 58 with
  | true =>
    rw [h1] at h
    simp only [cond_true, Option.some.injEq] at h
    subst h
    rw [Nat.eq_of_beq_eq_true h1]
    refine ownCheck_ok ?_
    intro t c o h
    simp only [lies4, Bool.and_eq_true] at h
    obtain ⟨⟨h1, h2⟩, h3⟩ := h
    rw [Nat.eq_of_beq_eq_true h1, Nat.eq_of_beq_eq_true h2, Nat.eq_of_beq_eq_true h3]
    exact ⟨by decide, by kernel_rfl⟩
  | false =>
    rw [h1] at h
    simp only [cond_false] at h
    cases h2 : Nat.beq f 51 with
    | true =>
      rw [h2] at h
      simp only [cond_true, Option.some.injEq] at h
      subst h
      rw [Nat.eq_of_beq_eq_true h2]
      exact ownString_ok
    | false =>
      rw [h2] at h
      simp only [cond_false] at h
      cases h3 : Nat.beq f 33 with
      | true =>
        rw [h3] at h
        simp only [cond_true, Option.some.injEq] at h
        subst h
        rw [Nat.eq_of_beq_eq_true h3]
        exact ownClone_ok hgl (by kernel_rfl) (e := 3) (by decide) (fun own mode => code33 own mode)
      | false =>
        rw [h3] at h
        simp only [cond_false] at h
        cases h4 : Nat.beq f 47 with
        | true =>
          rw [h4] at h
          simp only [cond_true, Option.some.injEq] at h
          subst h
          rw [Nat.eq_of_beq_eq_true h4]
          exact ownItoa_ok hT
        | false =>
          rw [h4] at h
          simp only [cond_false] at h
          cases h5 : Nat.beq f 50 with
          | true =>
            rw [h5] at h
            simp only [cond_true, Option.some.injEq] at h
            subst h
            rw [Nat.eq_of_beq_eq_true h5]
            exact ownRepeat_ok
          | false => rw [h5] at h; cases h

theorem calls_of_ret {W : World} (hsh : W.ShapedOpen Tryd.prog) (hT : TabAt W) {f : Nat} {xs : List AV} {args : Array Value} (h : Ret P4 f xs (.bool true)) (hxs : VRels (nbT W.heap.size) (emb0 W) xs args.toList) :
    Calls Tryd.prog f args W fun e w' => e = .returned (.bool true) ∧ RowKit.Below W.heap.size W w' := by
  obtain ⟨N, hN⟩ := h
  have hgl := globals_le hsh
  have hp : 0 < W.heap.size := by
    have h1 : 0 < (Tryd.prog).globals.size := of_decide_eq_true (by kernel_rfl)
    omega
  exact row_runN (nb := nbT W.heap.size) rfl ⟨hp, hT⟩ hgl (by kernel_rfl) (own4_ok hgl fun w h => h.2) (hN N (Nat.le_refl _) heap0) hxs

end Go.Lite

/-
  A world in which the listed variables hold what is listed.
-/
namespace Go.Lite
open Go Go.Proofs Go.RowKit

/-- a row of numbers, as cells -/
def cellsLaid {H : Type} : DataW H → Array Value
  | .agg l => (l.map fun d => match d with | .lit (.int k n) => Value.int k n | _ => .bool false).toArray
  | _ => #[]

noncomputable def laidWorld (P : Program) (os : Os) (l : List (Nat × DataW Unit)) : World :=
  let w0 := World.holding P os ⟨#[], #[], []⟩
  { w0 with heap := l.foldl (fun h p => h.modify p.1 fun
      | .cells _ t frozen => .cells (cellsLaid p.2) t frozen
      | o => o) w0.heap }

end Go.Lite
