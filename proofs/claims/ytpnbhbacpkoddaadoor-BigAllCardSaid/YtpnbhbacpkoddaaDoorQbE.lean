/-
  Several texts in one: BPureD, BQuo, BLawC.
-/
import Derived.Test.YtpnbhbacpkoddaaDoorQbD

/-
  Division by digits: plain laws.
-/
namespace Go.Lite
set_option linter.unusedSimpArgs false
set_option linter.unusedVariables false

/-- the digit's value -/
def digV (t : Str) (i : Nat) : Nat := atN t i - 48
/-- what is ahead of the i-th round -/
def remV (t : Str) (b i : Nat) : Nat := dval (t.take i) % b
def inV (t : Str) (b i : Nat) : Nat := 10 * remV t b i + digV t i
def quoD (t : Str) (b : Nat) : Nat → Str
  | 0 => []
  | i + 1 => quoD t b i ++ [48 + inV t b i / b]

theorem dval_take_succ {t : Str} {i : Nat} (h : i < t.length) : dval (t.take (i + 1)) = 10 * dval (t.take i) + digV t i := by
  rw [List.take_add_one, atN_at h, Option.toList_some, dval_snoc]; rfl

theorem remV_succ {t : Str} {b i : Nat} (h : i < t.length) : remV t b (i + 1) = inV t b i % b := by
  unfold remV inV
  rw [dval_take_succ h]
  unfold remV
  rw [Nat.add_mod, Nat.mul_mod, Nat.add_mod (10 * (dval (t.take i) % b)), Nat.mul_mod 10 (dval (t.take i) % b), Nat.mod_mod]

theorem digV_lt {t : Str} (h : Digs t) {i : Nat} (hi : i < t.length) : digV t i < 10 := by
  have := h _ (List.mem_of_getElem? (atN_at hi))
  unfold digV; omega

theorem inV_lt {t : Str} (h : Digs t) {b i : Nat} (hb : 0 < b) (hi : i < t.length) : inV t b i < 10 * b := by
  have h1 := digV_lt h hi
  have h2 : remV t b i < b := Nat.mod_lt _ hb
  unfold inV; omega

theorem inV_div_lt {t : Str} (h : Digs t) {b i : Nat} (hb : 0 < b) (hi : i < t.length) : inV t b i / b < 10 := by
  rw [Nat.div_lt_iff_lt_mul hb]; exact inV_lt h hb hi

theorem quoD_len (t : Str) (b : Nat) : ∀ i, (quoD t b i).length = i
  | 0 => rfl
  | i + 1 => by simp [quoD, quoD_len t b i]

theorem quoD_digs {t : Str} (h : Digs t) {b : Nat} (hb : 0 < b) : ∀ i, i ≤ t.length → Digs (quoD t b i)
  | 0, _ => .nil
  | i + 1, hi => by
    have := inV_div_lt h hb (i := i) (by omega)
    exact (quoD_digs h hb i (by omega)).append (.one this)

theorem quoD_val {t : Str} {b : Nat} (hb : 0 < b) : ∀ i, i ≤ t.length → dval (quoD t b i) = dval (t.take i) / b
  | 0, _ => by simp [quoD, dval]
  | i + 1, hi => by
    rw [quoD, dval_snoc, quoD_val hb i (by omega), dval_take_succ (by omega), Nat.add_sub_cancel_left]
    unfold inV remV
    have h1 : dval (t.take i) = b * (dval (t.take i) / b) + dval (t.take i) % b := (Nat.div_add_mod _ _).symm
    generalize dval (t.take i) / b = q at *
    generalize dval (t.take i) % b = r at *
    rw [h1, show 10 * (b * q + r) + digV t i = (10 * r + digV t i) + b * (10 * q) by rw [Nat.mul_add, Nat.mul_left_comm]; omega, Nat.add_mul_div_left _ _ hb]
    omega

end Go.Lite

/-
  Quotients, as the program does them.
-/
namespace Go.Lite
open Go Go.Proofs
set_option maxRecDepth 100000
set_option linter.unusedSimpArgs false
set_option linter.unusedVariables false

theorem quo_val (x y : Int) : valZ (!(decide (x < 0) == decide (y < 0))) (x.natAbs / y.natAbs) = x.tdiv y := by
  unfold valZ
  rcases Int.natAbs_eq x with h1 | h1 <;> rcases Int.natAbs_eq y with h2 | h2
  all_goals
    generalize x.natAbs = a at *
    generalize y.natAbs = b at *
    subst h1; subst h2
  · have e1 : decide ((a : Int) < 0) = false := decide_eq_false (by omega)
    have e2 : decide ((b : Int) < 0) = false := decide_eq_false (by omega)
    rw [e1, e2, if_neg (by simp), Int.ofNat_tdiv]
  · have e1 : decide ((a : Int) < 0) = false := decide_eq_false (by omega)
    rw [e1, Int.tdiv_neg]
    by_cases hb : b = 0
    · subst hb; simp
    · have e2 : decide (-(b : Int) < 0) = true := decide_eq_true (by omega)
      rw [e2, if_pos (by simp), Int.ofNat_tdiv]
  · have e2 : decide ((b : Int) < 0) = false := decide_eq_false (by omega)
    rw [e2, Int.neg_tdiv]
    by_cases ha : a = 0
    · subst ha; simp
    · have e1 : decide (-(a : Int) < 0) = true := decide_eq_true (by omega)
      rw [e1, if_pos (by simp), Int.ofNat_tdiv]
  · rw [Int.neg_tdiv, Int.tdiv_neg, Int.neg_neg]
    by_cases ha : a = 0
    · subst ha; simp
    · by_cases hb : b = 0
      · subst hb; simp
      · have e1 : decide (-(a : Int) < 0) = true := decide_eq_true (by omega)
        have e2 : decide (-(b : Int) < 0) = true := decide_eq_true (by omega)
        rw [e1, e2, if_neg (by simp), Int.ofNat_tdiv]

theorem rem_val (x y : Int) : valZ (decide (x < 0)) (x.natAbs % y.natAbs) = x.tmod y := by
  unfold valZ
  rcases Int.natAbs_eq x with h1 | h1 <;> rcases Int.natAbs_eq y with h2 | h2
  all_goals
    generalize x.natAbs = a at *
    generalize y.natAbs = b at *
    subst h1; subst h2
  · have e1 : decide ((a : Int) < 0) = false := decide_eq_false (by omega)
    rw [e1, if_neg (by simp), Int.ofNat_tmod]
  · have e1 : decide ((a : Int) < 0) = false := decide_eq_false (by omega)
    rw [e1, if_neg (by simp), Int.tmod_neg, Int.ofNat_tmod]
  · rw [Int.neg_tmod, ← Int.ofNat_tmod]
    by_cases ha : a = 0
    · subst ha; simp
    · have e1 : decide (-(a : Int) < 0) = true := decide_eq_true (by omega)
      rw [e1, if_pos rfl]
  · rw [Int.neg_tmod, Int.tmod_neg, ← Int.ofNat_tmod]
    by_cases ha : a = 0
    · subst ha; simp
    · have e1 : decide (-(a : Int) < 0) = true := decide_eq_true (by omega)
      rw [e1, if_pos rfl]

theorem plusN (a b : Nat) (ha : (limbs BB a).length ≤ 800000) (hb : (limbs BB b).length ≤ 800000) : Ret P4 37 [vN true (limbs BB a), vN true (limbs BB b)] (vN true (limbs BB (a + b))) := by
  have := plus37 true true _ _ (limbs_below BB2 a) (limbs_below BB2 b) (by omega) (by omega)
  rwa [lval_limbs BB2, lval_limbs BB2] at this
theorem plusC (a c : Nat) (ha : (limbs BB a).length ≤ 800000) (hc : c < 10) : Ret P4 37 [vN true (limbs BB a), .lst 1 1 false [.int .i64 (c : Int)]] (vN true (limbs BB (a + c))) := by
  have hBB := BB_eq
  have := plus37 true true _ [c] (limbs_below BB2 a) (fun d hd => by rw [List.mem_singleton.1 hd]; omega) (by omega) (by simp)
  have h2 : lval BB [c] = c := by simp [lval]
  rw [lval_limbs BB2, h2] at this
  exact this
theorem lessN (a b : Nat) (ha : (limbs BB a).length ≤ 800000) (hle : b ≤ a) : Ret P4 39 [vN true (limbs BB a), vN true (limbs BB b)] (vN true (limbs BB (a - b))) := by
  have := less39 true true _ _ (limbs_below BB2 a) (limbs_below BB2 b) (by omega) (limbs_mono hle) (by rw [lval_limbs BB2, lval_limbs BB2]; exact hle)
  rwa [lval_limbs BB2, lval_limbs BB2] at this
theorem compareN (a b : Nat) (ha : (limbs BB a).length ≤ 800000) (hb : (limbs BB b).length ≤ 800000) : Ret P4 38 [vN true (limbs BB a), vN true (limbs BB b)] (.int .i64 (cmpN a b)) := by
  have := compare38 true true _ _ (limbs_below BB2 a) (limbs_below BB2 b) (limbs_last BB2 a) (limbs_last BB2 b) (by omega) (by omega)
  rwa [lval_limbs BB2, lval_limbs BB2] at this

theorem cmpN_ge {a b : Nat} (h : b ≤ a) : cmpN a b ≥ 0 := by unfold cmpN; rw [if_neg (by omega)]; split <;> omega
theorem cmpN_lt {a b : Nat} (h : a < b) : ¬ cmpN a b ≥ 0 := by unfold cmpN; rw [if_pos h]; omega

theorem byte_up {k : Nat} (h : k < 10) : IntKind.u8.wrap (((48 + k : Nat) : Int) + 1) = ((48 + (k + 1) : Nat) : Int) := by
  have : ∀ k : Nat, k < 10 → IntKind.u8.wrap (((48 + k : Nat) : Int) + 1) = ((48 + (k + 1) : Nat) : Int) := by decide
  exact this k h

/-- how often b goes into v -/
theorem quo_l0 {n m : Nat} {v b : Nat} {s7 s10 s25 : AV} {q : Bool} {fr : Fr} {H : Heap} {KK : Ex → Fr → Heap → R} {Q : AV → Heap → Prop} (hb : 0 < b) (hv : v / b < 10) (hm : 12 ≤ m)
    (e38 : ∀ k, k < 11 → k * b ≤ v → ∀ H, callN P4 n 38 [vN true (limbs BB (v - k * b)), vN true (limbs BB b)] H = some (.ret (.int .i64 (cmpN (v - k * b) b)), H))
    (e39 : ∀ k, k < 11 → (k + 1) * b ≤ v → ∀ H, callN P4 n 39 [vN true (limbs BB (v - k * b)), vN true (limbs BB b)] H = some (.ret (vN true (limbs BB (v - (k + 1) * b))), H))
    (h7 : fr 7 = s7) (h8 : fr 8 = .ptr (.new 1) 0) (h9 : fr 9 = vN true (limbs BB v)) (h10 : fr 10 = s10) (h14 : fr 14 = .int .u8 (48 : Nat)) (h25 : fr 25 = s25) (g1 : H.t.get 1 = some (.row [.bool q, vN true (limbs BB b)] 0 false (some 45)))
    (hK : ∀ fr : Fr, fr 7 = s7 → fr 8 = .ptr (.new 1) 0 → fr 9 = vN true (limbs BB (v % b)) → fr 10 = s10 → fr 14 = .int .u8 (48 + v / b : Nat) → fr 25 = s25 → Gives (KK (.exit 2) fr H) Q) :
    Gives (loopR (callN P4 n) n c22_l0 m fr H KK) Q := by
  have hle : ∀ k, k ≤ v / b → k * b ≤ v := fun k h => Nat.le_trans (Nat.mul_le_mul_right b h) (Nat.div_mul_le_self v b)
  refine loop_rounds (v / b) (fun k fr H' => H' = H ∧ fr 7 = s7 ∧ fr 8 = .ptr (.new 1) 0 ∧ fr 9 = vN true (limbs BB (v - k * b)) ∧ fr 10 = s10 ∧ fr 14 = .int .u8 (48 + k : Nat) ∧ fr 25 = s25) ?_ ?_ m 0 _ _ (Nat.zero_le _) (by omega) ⟨rfl, h7, h8, by simpa using h9, h10, h14, h25⟩
  · rintro k fr H' K' hi ⟨rfl, h7, h8, h9, h10, h14, h25⟩ hKe hKr hK'
    have e1 := e38 k (by omega) (hle k (by omega))
    have e2 := e39 k (by omega) (hle (k + 1) (by omega))
    have hc : cmpN (v - k * b) b ≥ 0 := cmpN_ge (by have := hle (k + 1) (by omega); rw [Nat.succ_mul] at this; omega)
    have hw := byte_up (k := k) (by omega)
    generalize cmpN (v - k * b) b = c at *
    simp -implicitDefEqProofs only [c22_l0, ↓v_lenS, SB, POp.val, AOp.val, WOp.val, Lite.bin, intBin, strBin, eqv, eqMany, eq1, AV.asBool, AV.asInt, AV.asNat, AV.asPtr, AV.asStr, resVals, ResV.val, oneOr, wants, skipped, fillAt, putAt, capOf, optNat, bnd, Nat.reduceBEq, reduceIte, Nat.reduceAdd, Nat.reduceLeDiff, Nat.reduceEqDiff, Nat.reduceSub, Nat.reduceMul, Nat.reduceDiv, SOper.again, same, sameBlk, sameCap, Nat.reduceBneDiff, s_draw2, s_pair, k_pair, asunder, SOper.into, Bool.not_false, Bool.not_true, CL, BS, h8, h9, h14, g1, e1, e2, hc, hw]
    refine hK' _ _ ⟨rfl, ?_, ?_, ?_, ?_, ?_, ?_⟩
    all_goals simp -implicitDefEqProofs only [↓v_lenS, SB, POp.val, AOp.val, WOp.val, Lite.bin, intBin, strBin, eqv, eqMany, eq1, AV.asBool, AV.asInt, AV.asNat, AV.asPtr, AV.asStr, resVals, ResV.val, oneOr, wants, skipped, fillAt, putAt, capOf, optNat, bnd, Nat.reduceBEq, reduceIte, Nat.reduceAdd, Nat.reduceLeDiff, Nat.reduceEqDiff, Nat.reduceSub, Nat.reduceMul, Nat.reduceDiv, SOper.again, same, sameBlk, sameCap, Nat.reduceBneDiff, s_draw2, s_pair, k_pair, asunder, SOper.into, Bool.not_false, Bool.not_true, h7, h8, h10, h25]
  · rintro fr H' K' ⟨rfl, h7, h8, h9, h10, h14, h25⟩ hKe hKr
    have e1 := e38 (v / b) (by omega) (hle _ (Nat.le_refl _))
    have hm : v - v / b * b = v % b := by
      have := Nat.div_add_mod v b
      rw [Nat.mul_comm] at this; omega
    rw [hm] at e1 h9
    have hc : ¬ cmpN (v % b) b ≥ 0 := cmpN_lt (Nat.mod_lt _ hb)
    generalize cmpN (v % b) b = c at *
    simp -implicitDefEqProofs only [c22_l0, ↓v_lenS, SB, POp.val, AOp.val, WOp.val, Lite.bin, intBin, strBin, eqv, eqMany, eq1, AV.asBool, AV.asInt, AV.asNat, AV.asPtr, AV.asStr, resVals, ResV.val, oneOr, wants, skipped, fillAt, putAt, capOf, optNat, bnd, Nat.reduceBEq, reduceIte, Nat.reduceAdd, Nat.reduceLeDiff, Nat.reduceEqDiff, Nat.reduceSub, Nat.reduceMul, Nat.reduceDiv, SOper.again, same, sameBlk, sameCap, Nat.reduceBneDiff, s_draw2, s_pair, k_pair, asunder, SOper.into, Bool.not_false, Bool.not_true, CL, BS, h8, h9, g1, e1, hc, hKe]
    refine hK _ ?_ ?_ ?_ ?_ ?_ ?_
    all_goals simp -implicitDefEqProofs only [↓v_lenS, SB, POp.val, AOp.val, WOp.val, Lite.bin, intBin, strBin, eqv, eqMany, eq1, AV.asBool, AV.asInt, AV.asNat, AV.asPtr, AV.asStr, resVals, ResV.val, oneOr, wants, skipped, fillAt, putAt, capOf, optNat, bnd, Nat.reduceBEq, reduceIte, Nat.reduceAdd, Nat.reduceLeDiff, Nat.reduceEqDiff, Nat.reduceSub, Nat.reduceMul, Nat.reduceDiv, SOper.again, same, sameBlk, sameCap, Nat.reduceBneDiff, s_draw2, s_pair, k_pair, asunder, SOper.into, Bool.not_false, Bool.not_true, h7, h8, h9, h10, h14, h25]

/-- told as these numbers, wherever it is told -/
def Sh (v : AV) (l : List Nat) : Prop := (∀ H, shutV v H = some (vN true l, H)) ∧ (∀ d H, shutC d v H = some (vN true l, H)) ∧ v.flat = true
theorem Sh.vN (l : List Nat) : Sh (vN true l) l := ⟨fun H => shutV_vN, fun d H => shutC_vN, fl_vN⟩
theorem Sh.nils : Sh .nils [] := ⟨fun H => rfl, fun d H => by rw [shutC_nils]; rfl, rfl⟩

theorem quo22_zero (x : Int) {k : Nat} (hx : x.natAbs < 10 ^ k) (hk : k ≤ 1000) : Ret P4 22 [.str (decZ x), .str (decZ 0)] (.tuple [.str [], .str [], .bool false]) := by
  have hlz := load30z x hx (by omega)
  have hlz2 := load30z 0 (k := 1) (by decide) (by omega)
  unfold numV at hlz hlz2
  have hz0 : limbs BB (Int.natAbs 0) = [] := limbs_zero BB
  rw [hz0] at hlz2
  refine Ret.of rfl (code22 _ _) rfl rfl (fun H => by simp -implicitDefEqProofs only [↓v_lenS, SB, POp.val, AOp.val, WOp.val, Lite.bin, intBin, strBin, eqv, eqMany, eq1, AV.asBool, AV.asInt, AV.asNat, AV.asPtr, AV.asStr, resVals, ResV.val, oneOr, wants, skipped, fillAt, putAt, capOf, optNat, bnd, Nat.reduceBEq, reduceIte, Nat.reduceAdd, Nat.reduceLeDiff, Nat.reduceEqDiff, Nat.reduceSub, Nat.reduceMul, Nat.reduceDiv, SOper.again, same, sameBlk, sameCap, Nat.reduceBneDiff, s_draw2, s_pair, k_pair, asunder, SOper.into, Bool.not_false, Bool.not_true]) ((hlz.and hlz2).mono fun n e H => ?_)
  obtain ⟨e1, e2⟩ := e
  generalize decZ x = sx at *
  generalize decZ 0 = sy at *
  have hz : (((0 : Nat) : Int) == 0) = true := rfl
  simp -implicitDefEqProofs only [c22, ↓v_lenS, SB, POp.val, AOp.val, WOp.val, Lite.bin, intBin, strBin, eqv, eqMany, eq1, AV.asBool, AV.asInt, AV.asNat, AV.asPtr, AV.asStr, resVals, ResV.val, oneOr, wants, skipped, fillAt, putAt, capOf, optNat, bnd, Nat.reduceBEq, reduceIte, Nat.reduceAdd, Nat.reduceLeDiff, Nat.reduceEqDiff, Nat.reduceSub, Nat.reduceMul, Nat.reduceDiv, SOper.again, same, sameBlk, sameCap, Nat.reduceBneDiff, s_draw2, s_pair, k_pair, asunder, SOper.into, Bool.not_false, Bool.not_true, CL, BS, vN_nil, e1, e2, hz, Ends, gives_ret]
  exact ⟨_, rfl⟩

theorem byte_more {N n d : Nat} {H : Heap} {s : Str} {v : AV} (acc : Acc N H 5 1 n (bytes s) v) (low : HLow H) (hN : N ≤ H.n) (hb : n ≤ 1000000) :
    ∃ H', appendOf 5 1 1 (H.push (.row [.int .u8 (d : Int)] 0 true none)) v (1, [.int .u8 (d : Int)]) = some (.slice (.new (H.n + 1)) 0 (n + 1) (.gro 1), H') ∧
      Acc N H' 5 1 (n + 1) (bytes (s ++ [d])) (.slice (.new (H.n + 1)) 0 (n + 1) (.gro 1)) ∧ HLow H' ∧ H.n ≤ H'.n ∧
      (∀ j cs fz tt, H.t.get j = some (.row cs 0 fz tt) → H'.t.get j = some (.row cs 0 fz tt)) ∧ (∀ j t p, H.t.get j = some (.iter t p) → H'.t.get j = some (.iter t p)) := by
  obtain ⟨H7, happ, acc7, kp7, low7, hn7⟩ := (acc.push low (ob := .row [.int .u8 (d : Int)] 0 true none)).one_more (e := 5) (bs := 1) (ys := [.int .u8 (d : Int)]) (by simp only [h_n]; omega) low.push (by decide) rfl rfl (by omega)
  simp only [h_n] at happ acc7 hn7
  refine ⟨H7, happ, ?_, low7, by omega, fun j cs fz tt hj => (acc.push low).row (by decide) kp7 (by rw [h_get, if_neg (by have := low j _ hj; omega)]; exact hj), fun j t p hj => ?_⟩
  · rw [bytes_append]; exact acc7
  · refine kp7.get j _ (by rw [h_get, if_neg (by have := low j _ hj; omega)]; exact hj) ?_
    rintro ⟨o, m, c, rfl⟩
    rcases acc with ⟨_, _, h⟩ | ⟨_, _, q, h, _, h4⟩
    · cases h
    · simp only [AV.slice.injEq, Blk.new.injEq] at h
      rw [h.1, h4] at hj
      cases hj

theorem acc_str {N n : Nat} {H : Heap} {s : Str} {v : AV} (acc : Acc N H 5 1 n (bytes s) v) (hn : s.length = n) (h256 : ∀ c ∈ s, c < 256) : strOfBytes H v = some (.str s) := by
  rcases acc with ⟨rfl, h1, rfl⟩ | ⟨_, h2, j, rfl, _, h4⟩
  · obtain rfl := List.eq_nil_of_length_eq_zero hn
    rfl
  · have e1 : (List.drop 0 (bytes s)).take n = bytes s := by rw [List.drop_zero, List.take_of_length_le (by rw [bytes_len]; omega)]
    have e2 : (bytes s).length = n := by rw [bytes_len]; omega
    simp only [strOfBytes, h_ldn, h_cells, h4, k_cells, k_ldn, e1, e2, if_true, Option.bind_some, bytesOf_bytes s h256, Option.map_some]

theorem quo22 (x y : Int) {k : Nat} (hx : x.natAbs < 10 ^ k) (hy : y.natAbs < 10 ^ k) (hk : k ≤ 1000) (hy0 : y ≠ 0) : Ret P4 22 [.str (decZ x), .str (decZ y)] (.tuple [.str (opZ (x.tdiv y)), .str (opZ (x.tmod y)), .bool true]) := by
  have hqv := quo_val x y
  have hrv := rem_val x y
  have hlz := load30z x hx (by omega)
  have hlz2 := load30z y hy (by omega)
  unfold numV at hlz hlz2
  have hx1 : x.natAbs < 10 ^ (k + 1) := Nat.lt_of_lt_of_le hx (Nat.pow_le_pow_right (by omega) (by omega))
  have hcut := trim36 (decZ x) (by have := decZ_len hx1 (by omega); omega)
  rw [cutS_decZ] at hcut
  have ht : Digs (decN x.natAbs) := decN_digs _
  have hva := dval_decN x.natAbs
  have htl := (decN_len_le (n := x.natAbs) (k := k + 1) (by omega)).2 hx1
  have hb0 : 0 < y.natAbs := by omega
  have hly := limbs_small hy (m := 200) (by omega)
  have hpk : (10 : Nat) ^ (k + 1) = 10 ^ k * 10 := Nat.pow_succ ..
  have hsm : ∀ w, w < 10 * y.natAbs → (limbs BB w).length ≤ 200 := fun w hw => limbs_small (k := k + 1) (by omega) (by omega)
  generalize hX : limbs BB x.natAbs = X at *
  generalize hb : y.natAbs = b at *
  generalize x.natAbs = a at *
  generalize hT : decN a = t at *
  have hquo := quoD_val hb0 (t := t) t.length (Nat.le_refl _)
  have hqd := quoD_digs ht hb0 t.length (Nat.le_refl _)
  have hrem : remV t b t.length = a % b := by unfold remV; rw [List.take_length, hva]
  rw [List.take_length, hva] at hquo
  have hneg : negS (quoD t b t.length) = false := by
    cases hq : quoD t b t.length with
    | nil => rfl
    | cons c s =>
      have := hqd c (by rw [hq]; simp)
      simp [negS]; omega
  have hcutq : cutS (quoD t b t.length) = quoD t b t.length := by
    cases hq : quoD t b t.length with
    | nil => rfl
    | cons c s =>
      have := hqd c (by rw [hq]; simp)
      simp [cutS]; omega
  have hld := load30 (quoD t b t.length) (by rw [hcutq]; exact hqd) (by rw [quoD_len]; omega)
  rw [hneg, hcutq, hquo] at hld
  have hdl : (limbs BB (a / b)).length ≤ 300 := by
    have : a / b ≤ a := Nat.div_le_self a b
    exact limbs_small (k := k + 1) (by omega) (by omega)
  have hml : (limbs BB (a % b)).length ≤ 300 := by
    have : a % b < b := Nat.mod_lt _ hb0
    have := hsm (a % b) (by omega)
    omega
  have ht1 := text32 true (!(decide (x < 0) == decide (y < 0))) (a / b) (by omega)
  have ht2 := text32 true (decide (x < 0)) (a % b) (by omega)
  unfold valZ at hqv hrv
  rw [hqv] at ht1
  rw [hrv] at ht2
  unfold opT at ht1 ht2
  have hrl : ∀ i, remV t b i < b := fun i => Nat.mod_lt _ hb0
  have steps : Ev fun n => ∀ i, i < t.length →
      (∀ H, callN P4 n 37 [vN true (limbs BB (remV t b i)), vN true (limbs BB (remV t b i))] H = some (.ret (vN true (limbs BB (remV t b i + remV t b i))), H)) ∧
      (∀ H, callN P4 n 37 [vN true (limbs BB (remV t b i + remV t b i)), vN true (limbs BB (remV t b i + remV t b i))] H = some (.ret (vN true (limbs BB (4 * remV t b i))), H)) ∧
      (∀ H, callN P4 n 37 [vN true (limbs BB (4 * remV t b i)), vN true (limbs BB (4 * remV t b i))] H = some (.ret (vN true (limbs BB (8 * remV t b i))), H)) ∧
      (∀ H, callN P4 n 37 [vN true (limbs BB (8 * remV t b i)), vN true (limbs BB (remV t b i + remV t b i))] H = some (.ret (vN true (limbs BB (10 * remV t b i))), H)) ∧
      (∀ H, callN P4 n 37 [vN true (limbs BB (10 * remV t b i)), .lst 1 1 false [.int .i64 (digV t i : Nat)]] H = some (.ret (vN true (limbs BB (inV t b i))), H)) ∧
      (∀ k, k < 11 → k * b ≤ inV t b i → ∀ H, callN P4 n 38 [vN true (limbs BB (inV t b i - k * b)), vN true (limbs BB b)] H = some (.ret (.int .i64 (cmpN (inV t b i - k * b) b)), H)) ∧
      (∀ k, k < 11 → (k + 1) * b ≤ inV t b i → ∀ H, callN P4 n 39 [vN true (limbs BB (inV t b i - k * b)), vN true (limbs BB b)] H = some (.ret (vN true (limbs BB (inV t b i - (k + 1) * b))), H)) := by
    have key := Ev.all (List.range t.length) (p := fun i n =>
      (∀ H, callN P4 n 37 [vN true (limbs BB (remV t b i)), vN true (limbs BB (remV t b i))] H = some (.ret (vN true (limbs BB (remV t b i + remV t b i))), H)) ∧
      (∀ H, callN P4 n 37 [vN true (limbs BB (remV t b i + remV t b i)), vN true (limbs BB (remV t b i + remV t b i))] H = some (.ret (vN true (limbs BB (4 * remV t b i))), H)) ∧
      (∀ H, callN P4 n 37 [vN true (limbs BB (4 * remV t b i)), vN true (limbs BB (4 * remV t b i))] H = some (.ret (vN true (limbs BB (8 * remV t b i))), H)) ∧
      (∀ H, callN P4 n 37 [vN true (limbs BB (8 * remV t b i)), vN true (limbs BB (remV t b i + remV t b i))] H = some (.ret (vN true (limbs BB (10 * remV t b i))), H)) ∧
      (∀ H, callN P4 n 37 [vN true (limbs BB (10 * remV t b i)), .lst 1 1 false [.int .i64 (digV t i : Nat)]] H = some (.ret (vN true (limbs BB (inV t b i))), H)) ∧
      (∀ k, k < 11 → k * b ≤ inV t b i → ∀ H, callN P4 n 38 [vN true (limbs BB (inV t b i - k * b)), vN true (limbs BB b)] H = some (.ret (.int .i64 (cmpN (inV t b i - k * b) b)), H)) ∧
      (∀ k, k < 11 → (k + 1) * b ≤ inV t b i → ∀ H, callN P4 n 39 [vN true (limbs BB (inV t b i - k * b)), vN true (limbs BB b)] H = some (.ret (vN true (limbs BB (inV t b i - (k + 1) * b))), H))) ?_
    · exact key.mono fun n h i hi => h i (List.mem_range.2 hi)
    · intro i hi
      replace hi := List.mem_range.1 hi
      have hr := hrl i
      have hd := digV_lt ht hi
      have hin := inV_lt ht hb0 hi
      have hinv : inV t b i = 10 * remV t b i + digV t i := rfl
      rw [hinv] at hin ⊢
      generalize remV t b i = r at *
      generalize digV t i = c at *
      have p1 := plusN r r (by have := hsm r (by omega); omega) (by have := hsm r (by omega); omega)
      have p2 := plusN (r + r) (r + r) (by have := hsm (r + r) (by omega); omega) (by have := hsm (r + r) (by omega); omega)
      have p3 := plusN (4 * r) (4 * r) (by have := hsm (4 * r) (by omega); omega) (by have := hsm (4 * r) (by omega); omega)
      have p4 := plusN (8 * r) (r + r) (by have := hsm (8 * r) (by omega); omega) (by have := hsm (r + r) (by omega); omega)
      have p5 := plusC (10 * r) c (by have := hsm (10 * r) (by omega); omega) hd
      rw [show r + r + (r + r) = 4 * r by omega] at p2
      rw [show 4 * r + 4 * r = 8 * r by omega] at p3
      rw [show 8 * r + (r + r) = 10 * r by omega] at p4
      have p6 := Ev.all (List.range 11) fun k _ => compareN (10 * r + c - k * b) b (by have := hsm (10 * r + c - k * b) (by omega); omega) (by omega)
      have p7 := Ev.all (List.range 11) (p := fun k n => (k + 1) * b ≤ 10 * r + c → ∀ H, callN P4 n 39 [vN true (limbs BB (10 * r + c - k * b)), vN true (limbs BB b)] H = some (.ret (vN true (limbs BB (10 * r + c - (k + 1) * b))), H)) fun k _ => by
        have hmul : (k + 1) * b = k * b + b := Nat.succ_mul k b
        rw [hmul]
        by_cases hle : k * b + b ≤ 10 * r + c
        · have := lessN (10 * r + c - k * b) b (by have := hsm (10 * r + c - k * b) (by omega); omega) (by omega)
          rw [show 10 * r + c - k * b - b = 10 * r + c - (k * b + b) by omega] at this
          exact this.mono fun n h _ => h
        · exact Ev.of fun n h => absurd h hle
      exact (p1.and (p2.and (p3.and (p4.and (p5.and (p6.and p7)))))).mono fun n h =>
        ⟨h.1, h.2.1, h.2.2.1, h.2.2.2.1, h.2.2.2.2.1, fun k hk _ => h.2.2.2.2.2.1 k (List.mem_range.2 hk), fun k hk => h.2.2.2.2.2.2 k (List.mem_range.2 hk)⟩
  refine Ret.of rfl (code22 _ _) rfl rfl (fun H => by simp -implicitDefEqProofs only [↓v_lenS, SB, POp.val, AOp.val, WOp.val, Lite.bin, intBin, strBin, eqv, eqMany, eq1, AV.asBool, AV.asInt, AV.asNat, AV.asPtr, AV.asStr, resVals, ResV.val, oneOr, wants, skipped, fillAt, putAt, capOf, optNat, bnd, Nat.reduceBEq, reduceIte, Nat.reduceAdd, Nat.reduceLeDiff, Nat.reduceEqDiff, Nat.reduceSub, Nat.reduceMul, Nat.reduceDiv, SOper.again, same, sameBlk, sameCap, Nat.reduceBneDiff, s_draw2, s_pair, k_pair, asunder, SOper.into, Bool.not_false, Bool.not_true]) ?_
  refine (hlz.and (hlz2.and (hcut.and (hld.and (ht1.and (ht2.and (steps.and (Ev.ge (t.length + 20))))))))).mono fun n e H => ?_
  obtain ⟨e1, e2, e3, e4, e5, e6, e7, hge⟩ := e
  generalize decZ x = sx at *
  generalize decZ y = sy at *
  have hYne : (((limbs BB b).length : Int) == 0) = false := by rw [limbs_pos BB2 hb0]; simp; omega
  simp -implicitDefEqProofs only [c22, ↓v_lenS, SB, POp.val, AOp.val, WOp.val, Lite.bin, intBin, strBin, eqv, eqMany, eq1, AV.asBool, AV.asInt, AV.asNat, AV.asPtr, AV.asStr, resVals, ResV.val, oneOr, wants, skipped, fillAt, putAt, capOf, optNat, bnd, Nat.reduceBEq, reduceIte, Nat.reduceAdd, Nat.reduceLeDiff, Nat.reduceEqDiff, Nat.reduceSub, Nat.reduceMul, Nat.reduceDiv, SOper.again, same, sameBlk, sameCap, Nat.reduceBneDiff, s_draw2, s_pair, k_pair, asunder, SOper.into, Bool.not_false, Bool.not_true, CL, BS, e1, e2, e3, hYne]
  refine loop_gen (fun e fr H => e = .exit 0 ∧ fr 7 = .ptr (.new 0) 0 ∧ fr 8 = .ptr (.new 1) 0 ∧ Sh (fr 9) (limbs BB (a % b)) ∧ H.t.get 0 = some (.row [.bool (decide (x < 0)), vN true X] 0 false (some 45)) ∧ H.t.get 1 = some (.row [.bool (decide (y < 0)), vN true (limbs BB b)] 0 false (some 45)) ∧ strOfBytes H (fr 10) = some (.str (quoD t b t.length))) ?_ fun KK fin => ?_
  · rintro e fr H ⟨rfl, h7, h8, ⟨hs1, hs2, hs3⟩, g0, g1, hstr⟩
    simp -implicitDefEqProofs only [↓v_lenS, SB, POp.val, AOp.val, WOp.val, Lite.bin, intBin, strBin, eqv, eqMany, eq1, AV.asBool, AV.asInt, AV.asNat, AV.asPtr, AV.asStr, resVals, ResV.val, oneOr, wants, skipped, fillAt, putAt, capOf, optNat, bnd, Nat.reduceBEq, reduceIte, Nat.reduceAdd, Nat.reduceLeDiff, Nat.reduceEqDiff, Nat.reduceSub, Nat.reduceMul, Nat.reduceDiv, SOper.again, same, sameBlk, sameCap, Nat.reduceBneDiff, s_draw2, s_pair, k_pair, asunder, SOper.into, Bool.not_false, Bool.not_true, CL, BS, k_blockE, h7, h8, g0, g1, hs2, hs3, hstr, e4, e5, e6, gives_ret]
    exact ⟨_, rfl⟩
  · refine loop_rounds t.length (fun i fr H => fr 7 = .ptr (.new 0) 0 ∧ fr 8 = .ptr (.new 1) 0 ∧ fr 25 = .ptr (.new 2) 0 ∧ Sh (fr 9) (limbs BB (remV t b i)) ∧ H.t.get 0 = some (.row [.bool (decide (x < 0)), vN true X] 0 false (some 45)) ∧ H.t.get 1 = some (.row [.bool (decide (y < 0)), vN true (limbs BB b)] 0 false (some 45)) ∧ H.t.get 2 = some (.iter t i) ∧ HLow H ∧ Acc 3 H 5 1 i (bytes (quoD t b i)) (fr 10)) ?_ ?_ n 0 _ _ (by omega) (by omega) ?_
    · rintro i fr H K' hi ⟨h7, h8, h25, ⟨hs1, hs2, hs3⟩, g0, g1, g2, low, acc⟩ hKe hKr hK
      obtain ⟨s1, s2, s3, s4, s5, s6, s7⟩ := e7 i hi
      have hdg := ht _ (List.mem_of_getElem? (atN_at hi))
      have hde : decodeAt (t.drop i) = (atN t i, 1) := decode_small (by rw [List.getElem?_drop]; exact atN_at hi) (by omega)
      have w1 := i32_digit hdg.1 hdg.2
      have w2 : IntKind.i64.wrap ((digV t i : Nat) : Int) = ((digV t i : Nat) : Int) := by have := digV_lt ht hi; exact wrap64 (by omega) (by omega)
      have hdv : ((atN t i - 48 : Nat) : Int) = ((digV t i : Nat) : Int) := rfl
      rw [hdv] at w1
      have hv10 := inV_div_lt ht hb0 hi
      generalize hv9 : fr 9 = v9 at *
      generalize hv10' : fr 10 = v10 at *
      have low1 : HLow (H.put 2 (.iter t (i + 1))) := low.put (low.lt g2)
      have acc1 : Acc 3 (H.put 2 (.iter t (i + 1))) 5 1 i (bytes (quoD t b i)) v10 := acc.putI g2
      simp -implicitDefEqProofs only [c22_l1, ↓v_lenS, SB, POp.val, AOp.val, WOp.val, Lite.bin, intBin, strBin, eqv, eqMany, eq1, AV.asBool, AV.asInt, AV.asNat, AV.asPtr, AV.asStr, resVals, ResV.val, oneOr, wants, skipped, fillAt, putAt, capOf, optNat, bnd, Nat.reduceBEq, reduceIte, Nat.reduceAdd, Nat.reduceLeDiff, Nat.reduceEqDiff, Nat.reduceSub, Nat.reduceMul, Nat.reduceDiv, SOper.again, same, sameBlk, sameCap, Nat.reduceBneDiff, s_draw2, s_pair, k_pair, asunder, SOper.into, Bool.not_false, Bool.not_true, CL, BS, h25, g2, hi, hde, hv9, hs1, s1, s2, s3, s4, s5, w1, w2]
      have hn2 : 2 < H.n := low.lt g2
      have gg : ∀ (j : Nat) (o : Obj), j < 2 → H.t.get j = some o → ((H.put 2 (.iter t (i + 1))).push (.row [.int .i64 (digV t i : Nat)] 0 true none)).t.get j = some o := fun j o hj ho => by
        rw [h_get, if_neg (by rw [h_nput]; omega), h_gput, if_neg (by omega)]; exact ho
      refine quo_l0 (q := decide (y < 0)) (s7 := .ptr (.new 0) 0) (s10 := v10) (s25 := .ptr (.new 2) 0) hb0 hv10 (by omega) s6 s7 ?_ ?_ ?_ ?_ ?_ ?_ (gg _ _ (by omega) g1) ?_
      · simp -implicitDefEqProofs only [↓v_lenS, SB, POp.val, AOp.val, WOp.val, Lite.bin, intBin, strBin, eqv, eqMany, eq1, AV.asBool, AV.asInt, AV.asNat, AV.asPtr, AV.asStr, resVals, ResV.val, oneOr, wants, skipped, fillAt, putAt, capOf, optNat, bnd, Nat.reduceBEq, reduceIte, Nat.reduceAdd, Nat.reduceLeDiff, Nat.reduceEqDiff, Nat.reduceSub, Nat.reduceMul, Nat.reduceDiv, SOper.again, same, sameBlk, sameCap, Nat.reduceBneDiff, s_draw2, s_pair, k_pair, asunder, SOper.into, Bool.not_false, Bool.not_true, h7]
      · simp -implicitDefEqProofs only [↓v_lenS, SB, POp.val, AOp.val, WOp.val, Lite.bin, intBin, strBin, eqv, eqMany, eq1, AV.asBool, AV.asInt, AV.asNat, AV.asPtr, AV.asStr, resVals, ResV.val, oneOr, wants, skipped, fillAt, putAt, capOf, optNat, bnd, Nat.reduceBEq, reduceIte, Nat.reduceAdd, Nat.reduceLeDiff, Nat.reduceEqDiff, Nat.reduceSub, Nat.reduceMul, Nat.reduceDiv, SOper.again, same, sameBlk, sameCap, Nat.reduceBneDiff, s_draw2, s_pair, k_pair, asunder, SOper.into, Bool.not_false, Bool.not_true, h8]
      · simp -implicitDefEqProofs only [↓v_lenS, SB, POp.val, AOp.val, WOp.val, Lite.bin, intBin, strBin, eqv, eqMany, eq1, AV.asBool, AV.asInt, AV.asNat, AV.asPtr, AV.asStr, resVals, ResV.val, oneOr, wants, skipped, fillAt, putAt, capOf, optNat, bnd, Nat.reduceBEq, reduceIte, Nat.reduceAdd, Nat.reduceLeDiff, Nat.reduceEqDiff, Nat.reduceSub, Nat.reduceMul, Nat.reduceDiv, SOper.again, same, sameBlk, sameCap, Nat.reduceBneDiff, s_draw2, s_pair, k_pair, asunder, SOper.into, Bool.not_false, Bool.not_true]
      · simp -implicitDefEqProofs only [↓v_lenS, SB, POp.val, AOp.val, WOp.val, Lite.bin, intBin, strBin, eqv, eqMany, eq1, AV.asBool, AV.asInt, AV.asNat, AV.asPtr, AV.asStr, resVals, ResV.val, oneOr, wants, skipped, fillAt, putAt, capOf, optNat, bnd, Nat.reduceBEq, reduceIte, Nat.reduceAdd, Nat.reduceLeDiff, Nat.reduceEqDiff, Nat.reduceSub, Nat.reduceMul, Nat.reduceDiv, SOper.again, same, sameBlk, sameCap, Nat.reduceBneDiff, s_draw2, s_pair, k_pair, asunder, SOper.into, Bool.not_false, Bool.not_true, hv10']
      · simp -implicitDefEqProofs only [↓v_lenS, SB, POp.val, AOp.val, WOp.val, Lite.bin, intBin, strBin, eqv, eqMany, eq1, AV.asBool, AV.asInt, AV.asNat, AV.asPtr, AV.asStr, resVals, ResV.val, oneOr, wants, skipped, fillAt, putAt, capOf, optNat, bnd, Nat.reduceBEq, reduceIte, Nat.reduceAdd, Nat.reduceLeDiff, Nat.reduceEqDiff, Nat.reduceSub, Nat.reduceMul, Nat.reduceDiv, SOper.again, same, sameBlk, sameCap, Nat.reduceBneDiff, s_draw2, s_pair, k_pair, asunder, SOper.into, Bool.not_false, Bool.not_true]; rfl
      · simp -implicitDefEqProofs only [↓v_lenS, SB, POp.val, AOp.val, WOp.val, Lite.bin, intBin, strBin, eqv, eqMany, eq1, AV.asBool, AV.asInt, AV.asNat, AV.asPtr, AV.asStr, resVals, ResV.val, oneOr, wants, skipped, fillAt, putAt, capOf, optNat, bnd, Nat.reduceBEq, reduceIte, Nat.reduceAdd, Nat.reduceLeDiff, Nat.reduceEqDiff, Nat.reduceSub, Nat.reduceMul, Nat.reduceDiv, SOper.again, same, sameBlk, sameCap, Nat.reduceBneDiff, s_draw2, s_pair, k_pair, asunder, SOper.into, Bool.not_false, Bool.not_true, h25]
      · intro fr' h7' h8' h9' h10' h14' h25'
        obtain ⟨H7, happ, acc7, low7, hn7, car7, cai7⟩ := byte_more (d := 48 + inV t b i / b) (acc1.push low1 (ob := .row [.int .i64 (digV t i : Nat)] 0 true none)) low1.push (by simp only [h_n, h_nput]; omega) (by omega)
        rw [← remV_succ hi] at h9'
        have g2' := cai7 2 t (i + 1) (by rw [h_get, if_neg (by rw [h_nput]; omega), h_gput, if_pos rfl])
        simp only [h_n, h_nput] at happ acc7
        simp -implicitDefEqProofs only [↓v_lenS, SB, POp.val, AOp.val, WOp.val, Lite.bin, intBin, strBin, eqv, eqMany, eq1, AV.asBool, AV.asInt, AV.asNat, AV.asPtr, AV.asStr, resVals, ResV.val, oneOr, wants, skipped, fillAt, putAt, capOf, optNat, bnd, Nat.reduceBEq, reduceIte, Nat.reduceAdd, Nat.reduceLeDiff, Nat.reduceEqDiff, Nat.reduceSub, Nat.reduceMul, Nat.reduceDiv, SOper.again, same, sameBlk, sameCap, Nat.reduceBneDiff, s_draw2, s_pair, k_pair, asunder, SOper.into, Bool.not_false, Bool.not_true, k_blockE, h10', h14', acc.flat, happ]
        refine hK _ _ ⟨?_, ?_, ?_, ?_, car7 _ _ _ _ (gg _ _ (by omega) g0), car7 _ _ _ _ (gg _ _ (by omega) g1), g2', low7, ?_⟩
        · simp -implicitDefEqProofs only [↓v_lenS, SB, POp.val, AOp.val, WOp.val, Lite.bin, intBin, strBin, eqv, eqMany, eq1, AV.asBool, AV.asInt, AV.asNat, AV.asPtr, AV.asStr, resVals, ResV.val, oneOr, wants, skipped, fillAt, putAt, capOf, optNat, bnd, Nat.reduceBEq, reduceIte, Nat.reduceAdd, Nat.reduceLeDiff, Nat.reduceEqDiff, Nat.reduceSub, Nat.reduceMul, Nat.reduceDiv, SOper.again, same, sameBlk, sameCap, Nat.reduceBneDiff, s_draw2, s_pair, k_pair, asunder, SOper.into, Bool.not_false, Bool.not_true, h7']
        · simp -implicitDefEqProofs only [↓v_lenS, SB, POp.val, AOp.val, WOp.val, Lite.bin, intBin, strBin, eqv, eqMany, eq1, AV.asBool, AV.asInt, AV.asNat, AV.asPtr, AV.asStr, resVals, ResV.val, oneOr, wants, skipped, fillAt, putAt, capOf, optNat, bnd, Nat.reduceBEq, reduceIte, Nat.reduceAdd, Nat.reduceLeDiff, Nat.reduceEqDiff, Nat.reduceSub, Nat.reduceMul, Nat.reduceDiv, SOper.again, same, sameBlk, sameCap, Nat.reduceBneDiff, s_draw2, s_pair, k_pair, asunder, SOper.into, Bool.not_false, Bool.not_true, h8']
        · simp -implicitDefEqProofs only [↓v_lenS, SB, POp.val, AOp.val, WOp.val, Lite.bin, intBin, strBin, eqv, eqMany, eq1, AV.asBool, AV.asInt, AV.asNat, AV.asPtr, AV.asStr, resVals, ResV.val, oneOr, wants, skipped, fillAt, putAt, capOf, optNat, bnd, Nat.reduceBEq, reduceIte, Nat.reduceAdd, Nat.reduceLeDiff, Nat.reduceEqDiff, Nat.reduceSub, Nat.reduceMul, Nat.reduceDiv, SOper.again, same, sameBlk, sameCap, Nat.reduceBneDiff, s_draw2, s_pair, k_pair, asunder, SOper.into, Bool.not_false, Bool.not_true, h25']
        · simp -implicitDefEqProofs only [↓v_lenS, SB, POp.val, AOp.val, WOp.val, Lite.bin, intBin, strBin, eqv, eqMany, eq1, AV.asBool, AV.asInt, AV.asNat, AV.asPtr, AV.asStr, resVals, ResV.val, oneOr, wants, skipped, fillAt, putAt, capOf, optNat, bnd, Nat.reduceBEq, reduceIte, Nat.reduceAdd, Nat.reduceLeDiff, Nat.reduceEqDiff, Nat.reduceSub, Nat.reduceMul, Nat.reduceDiv, SOper.again, same, sameBlk, sameCap, Nat.reduceBneDiff, s_draw2, s_pair, k_pair, asunder, SOper.into, Bool.not_false, Bool.not_true, h9']; exact Sh.vN _
        · simp -implicitDefEqProofs only [↓v_lenS, SB, POp.val, AOp.val, WOp.val, Lite.bin, intBin, strBin, eqv, eqMany, eq1, AV.asBool, AV.asInt, AV.asNat, AV.asPtr, AV.asStr, resVals, ResV.val, oneOr, wants, skipped, fillAt, putAt, capOf, optNat, bnd, Nat.reduceBEq, reduceIte, Nat.reduceAdd, Nat.reduceLeDiff, Nat.reduceEqDiff, Nat.reduceSub, Nat.reduceMul, Nat.reduceDiv, SOper.again, same, sameBlk, sameCap, Nat.reduceBneDiff, s_draw2, s_pair, k_pair, asunder, SOper.into, Bool.not_false, Bool.not_true]; exact acc7
    · rintro fr H K' ⟨h7, h8, h25, hsh, g0, g1, g2, low, acc⟩ hKe hKr
      have hlt : ¬ t.length < t.length := by omega
      rw [hrem] at hsh
      have hstr := acc_str acc (quoD_len _ _ _) (fun c hc => by have := hqd c hc; omega)
      simp -implicitDefEqProofs only [c22_l1, ↓v_lenS, SB, POp.val, AOp.val, WOp.val, Lite.bin, intBin, strBin, eqv, eqMany, eq1, AV.asBool, AV.asInt, AV.asNat, AV.asPtr, AV.asStr, resVals, ResV.val, oneOr, wants, skipped, fillAt, putAt, capOf, optNat, bnd, Nat.reduceBEq, reduceIte, Nat.reduceAdd, Nat.reduceLeDiff, Nat.reduceEqDiff, Nat.reduceSub, Nat.reduceMul, Nat.reduceDiv, SOper.again, same, sameBlk, sameCap, Nat.reduceBneDiff, s_draw2, s_pair, k_pair, asunder, SOper.into, Bool.not_false, Bool.not_true, h25, g2, hlt, hKe]
      refine fin _ _ _ ⟨rfl, ?_, ?_, ?_, g0, g1, ?_⟩
      · simp -implicitDefEqProofs only [↓v_lenS, SB, POp.val, AOp.val, WOp.val, Lite.bin, intBin, strBin, eqv, eqMany, eq1, AV.asBool, AV.asInt, AV.asNat, AV.asPtr, AV.asStr, resVals, ResV.val, oneOr, wants, skipped, fillAt, putAt, capOf, optNat, bnd, Nat.reduceBEq, reduceIte, Nat.reduceAdd, Nat.reduceLeDiff, Nat.reduceEqDiff, Nat.reduceSub, Nat.reduceMul, Nat.reduceDiv, SOper.again, same, sameBlk, sameCap, Nat.reduceBneDiff, s_draw2, s_pair, k_pair, asunder, SOper.into, Bool.not_false, Bool.not_true, h7]
      · simp -implicitDefEqProofs only [↓v_lenS, SB, POp.val, AOp.val, WOp.val, Lite.bin, intBin, strBin, eqv, eqMany, eq1, AV.asBool, AV.asInt, AV.asNat, AV.asPtr, AV.asStr, resVals, ResV.val, oneOr, wants, skipped, fillAt, putAt, capOf, optNat, bnd, Nat.reduceBEq, reduceIte, Nat.reduceAdd, Nat.reduceLeDiff, Nat.reduceEqDiff, Nat.reduceSub, Nat.reduceMul, Nat.reduceDiv, SOper.again, same, sameBlk, sameCap, Nat.reduceBneDiff, s_draw2, s_pair, k_pair, asunder, SOper.into, Bool.not_false, Bool.not_true, h8]
      · simp -implicitDefEqProofs only [↓v_lenS, SB, POp.val, AOp.val, WOp.val, Lite.bin, intBin, strBin, eqv, eqMany, eq1, AV.asBool, AV.asInt, AV.asNat, AV.asPtr, AV.asStr, resVals, ResV.val, oneOr, wants, skipped, fillAt, putAt, capOf, optNat, bnd, Nat.reduceBEq, reduceIte, Nat.reduceAdd, Nat.reduceLeDiff, Nat.reduceEqDiff, Nat.reduceSub, Nat.reduceMul, Nat.reduceDiv, SOper.again, same, sameBlk, sameCap, Nat.reduceBneDiff, s_draw2, s_pair, k_pair, asunder, SOper.into, Bool.not_false, Bool.not_true]; exact hsh
      · simp -implicitDefEqProofs only [↓v_lenS, SB, POp.val, AOp.val, WOp.val, Lite.bin, intBin, strBin, eqv, eqMany, eq1, AV.asBool, AV.asInt, AV.asNat, AV.asPtr, AV.asStr, resVals, ResV.val, oneOr, wants, skipped, fillAt, putAt, capOf, optNat, bnd, Nat.reduceBEq, reduceIte, Nat.reduceAdd, Nat.reduceLeDiff, Nat.reduceEqDiff, Nat.reduceSub, Nat.reduceMul, Nat.reduceDiv, SOper.again, same, sameBlk, sameCap, Nat.reduceBneDiff, s_draw2, s_pair, k_pair, asunder, SOper.into, Bool.not_false, Bool.not_true]; exact hstr
    · refine ⟨?_, ?_, ?_, ?_, ?_, ?_, ?_, ?_, ?_⟩
      any_goals simp -implicitDefEqProofs only [↓v_lenS, SB, POp.val, AOp.val, WOp.val, Lite.bin, intBin, strBin, eqv, eqMany, eq1, AV.asBool, AV.asInt, AV.asNat, AV.asPtr, AV.asStr, resVals, ResV.val, oneOr, wants, skipped, fillAt, putAt, capOf, optNat, bnd, Nat.reduceBEq, reduceIte, Nat.reduceAdd, Nat.reduceLeDiff, Nat.reduceEqDiff, Nat.reduceSub, Nat.reduceMul, Nat.reduceDiv, SOper.again, same, sameBlk, sameCap, Nat.reduceBneDiff, s_draw2, s_pair, k_pair, asunder, SOper.into, Bool.not_false, Bool.not_true]
      · have : remV t b 0 = 0 := by simp [remV, dval]
        rw [this, limbs_zero]; exact Sh.nils
      · exact ((HLow.bare.push.push.put (by simp [h_n])).put (by simp [h_n, h_nput])).push
      · exact Acc.nil

end Go.Lite

/-
  The law BigQuo.
-/
namespace Go.Lite
open Go Go.Proofs
set_option maxRecDepth 100000
set_option linter.unusedSimpArgs false
set_option linter.unusedVariables false

theorem decZ_minus {z : Int} (h : z < 0) : decZ z = 45 :: decZ (z.natAbs : Int) := by
  rw [decZ_nonneg]; unfold decZ; rw [if_pos h]
theorem decZ_plain {z : Int} (h : 0 ≤ z) : decZ z = decZ (z.natAbs : Int) := by
  rw [decZ_nonneg]; unfold decZ; rw [if_neg (by omega)]

theorem tmod_sign {x y : Int} (hr : x.tmod y ≠ 0) : decide (x.tmod y < 0) = decide (x < 0) := by
  by_cases h : x < 0
  · have h1 : x.tmod y ≤ 0 := by
      have := Int.tmod_nonneg (a := -x) y (by omega)
      rw [Int.neg_tmod] at this; omega
    rw [decide_eq_true h, decide_eq_true (by omega)]
  · have h1 := Int.tmod_nonneg (a := x) y (by omega)
    rw [decide_eq_false h, decide_eq_false (by omega)]

set_option maxHeartbeats 1000000 in
theorem law8 (f0 f1 : Bool) (k0 k1 : List Int) (b0 b1 : Bool) (h0 : k0.length ≤ 9223372036854775807) (h1 : k1.length ≤ 9223372036854775807) : Ret P4 8 [vI f0 k0, vI f1 k1, .bool b0, .bool b1] (.bool true) := by
  refine Ret.of rfl (code8 _ _) rfl rfl (fun H => by simp -implicitDefEqProofs only [↓v_lenS, SB, POp.val, AOp.val, WOp.val, Lite.bin, intBin, strBin, eqv, eqMany, eq1, AV.asBool, AV.asInt, AV.asNat, AV.asPtr, AV.asStr, resVals, ResV.val, oneOr, wants, skipped, fillAt, putAt, capOf, optNat, bnd, Nat.reduceBEq, reduceIte, Nat.reduceAdd, Nat.reduceLeDiff, Nat.reduceEqDiff, Nat.reduceSub, Nat.reduceMul, Nat.reduceDiv, SOper.again, same, sameBlk, sameCap, Nat.reduceBneDiff, s_draw2, s_pair, k_pair, asunder, SOper.into, Bool.not_false, Bool.not_true, IS]) ?_
  have n0 := num14 f0 k0 150 b0 h0 (by omega)
  have n1 := num14 f1 k1 80 b1 h1 (by omega)
  have lx := numZ_lt k0 150 b0
  have ly := numZ_lt k1 80 b1
  generalize numZ k0 150 b0 = x at *
  generalize numZ k1 80 b1 = y at *
  have e150 : ((150 : Nat) : Int) = 150 := rfl
  have e80 : ((80 : Nat) : Int) = 80 := rfl
  have hy0 := decZ_eq0 y
  have hnil : (([] : List Nat) == []) = true := rfl
  by_cases hz : y = 0
  · rw [decide_eq_true hz] at hy0
    have hq := quo22_zero x lx (by omega)
    rw [hz] at n1 hy0
    refine (known13.and (n0.and (n1.and hq))).mono fun n e H => ?_
    obtain ⟨e0, e1, e2, e3⟩ := e
    rw [e150] at e1; rw [e80] at e2
    generalize decZ x = sx at *
    generalize decZ 0 = sy at *
    simp -implicitDefEqProofs only [c8, ↓v_lenS, SB, POp.val, AOp.val, WOp.val, Lite.bin, intBin, strBin, eqv, eqMany, eq1, AV.asBool, AV.asInt, AV.asNat, AV.asPtr, AV.asStr, resVals, ResV.val, oneOr, wants, skipped, fillAt, putAt, capOf, optNat, bnd, Nat.reduceBEq, reduceIte, Nat.reduceAdd, Nat.reduceLeDiff, Nat.reduceEqDiff, Nat.reduceSub, Nat.reduceMul, Nat.reduceDiv, SOper.again, same, sameBlk, sameCap, Nat.reduceBneDiff, s_draw2, s_pair, k_pair, asunder, SOper.into, Bool.not_false, Bool.not_true, CL, IS, e0, e1, e2, e3, hy0, hnil, Ends, gives_ret]
    exact ⟨_, rfl⟩
  · rw [decide_eq_false hz] at hy0
    have hq := quo22 x y lx (lift_pow ly (by omega)) (by omega) hz
    obtain ⟨q, hqd⟩ : ∃ q, q = x.tdiv y := ⟨_, rfl⟩
    obtain ⟨r, hrd⟩ : ∃ r, r = x.tmod y := ⟨_, rfl⟩
    have hdm : q * y + r = x := by rw [hqd, hrd]; exact Int.tdiv_mul_add_tmod x y
    have hra : r.natAbs < y.natAbs := by
      rw [hrd, Int.natAbs_tmod]; exact Nat.mod_lt _ (by omega)
    have hqa : q.natAbs ≤ x.natAbs := by rw [hqd, Int.natAbs_tdiv]; exact Nat.div_le_self _ _
    have hma : (q * y).natAbs ≤ x.natAbs := by rw [hqd, Int.natAbs_mul, Int.natAbs_tdiv]; exact Nat.div_mul_le_self _ _
    have hsg : r ≠ 0 → decide (r < 0) = decide (x < 0) := by rw [hrd]; exact tmod_sign
    have p1 : (10 : Nat) ^ 150 ≤ 10 ^ 200 := Nat.pow_le_pow_right (by omega) (by omega)
    have p2 : (10 : Nat) ^ 80 ≤ 10 ^ 150 := Nat.pow_le_pow_right (by omega) (by omega)
    rw [← hqd, ← hrd] at hq
    unfold opZ at hq
    rw [if_pos (by omega), if_pos (by omega)] at hq
    have hm := mul20 q y (k := 150) (by omega) (by omega) (by omega)
    rw [opT_small (by omega)] at hm
    have ha := addR (z := x) 150 150 (x := q * y) (y := r) (by omega) (by omega) (by omega) (by omega) hdm
    have hc := cmpR (r.natAbs : Int) (y.natAbs : Int) (by rw [Int.natAbs_natCast]; omega) (by rw [Int.natAbs_natCast]; omega)
    rw [sgn_neg (by omega)] at hc
    have hr0 := decZ_eq0 r
    have hrE := decZ_nil r
    obtain ⟨cx, tx, hsx, hcx, hx45⟩ := decZ_head x
    obtain ⟨cr, tr, hsr, hcr, hr45⟩ := decZ_head r
    obtain ⟨cy, ty, hsy, hcy, hy45⟩ := decZ_head y
    have i1 : ((0 : Int) ≤ 1) = True := by simp
    have i2 : Int.toNat 1 = 1 := rfl
    have q1 : (-1 : Int) < 0 := by omega
    have tk : ∀ l : List Nat, List.take (l.length + 1 - 1) l = l := fun l => List.take_of_length_le (by omega)
    have tk2 : ∀ l : List Nat, 1 ≤ l.length + 1 := fun l => by omega
    have gp : ∀ l : List Nat, ((l.length + 1 : Nat) : Int) > 0 := fun l => by omega
    have hA : decZ (r.natAbs : Int) = if r < 0 then tr else cr :: tr := by
      by_cases h : r < 0
      · have := decZ_minus h; rw [hsr] at this; rw [if_pos h]; exact (List.cons.inj this).2.symm
      · have := decZ_plain (z := r) (by omega); rw [hsr] at this; rw [if_neg h]; exact this.symm
    have hB : decZ (y.natAbs : Int) = if y < 0 then ty else cy :: ty := by
      by_cases h : y < 0
      · have := decZ_minus h; rw [hsy] at this; rw [if_pos h]; exact (List.cons.inj this).2.symm
      · have := decZ_plain (z := y) (by omega); rw [hsy] at this; rw [if_neg h]; exact this.symm
    rw [hA, hB] at hc
    have hxx : (decZ x == decZ x) = true := by simp
    rw [hsr] at hr0 hrE
    refine (known13.and (n0.and (n1.and (hq.and (hm.and (ha.and hc)))))).mono fun n e H => ?_
    obtain ⟨e0, e1, e2, e3, e4, e5, e6⟩ := e
    rw [e150] at e1; rw [e80] at e2
    rw [hsr] at e3 e5
    rw [hsx] at e1 e3 e5 hxx
    rw [hsy] at e2 e3 e4 hy0
    generalize decZ q = sq at *
    generalize decZ (q * y) = sm at *
    by_cases hrn : r < 0
    · rw [if_pos hrn] at e6
      have hs := hsg (by omega)
      rw [decide_eq_true hrn] at hr45 hs
      rw [← hs] at hx45
      rw [decide_eq_false (by omega)] at hr0
      by_cases hyn : y < 0
      · rw [if_pos hyn] at e6
        rw [decide_eq_true hyn] at hy45
        simp -implicitDefEqProofs only [c8, ↓v_lenS, SB, POp.val, AOp.val, WOp.val, Lite.bin, intBin, strBin, eqv, eqMany, eq1, AV.asBool, AV.asInt, AV.asNat, AV.asPtr, AV.asStr, resVals, ResV.val, oneOr, wants, skipped, fillAt, putAt, capOf, optNat, bnd, Nat.reduceBEq, reduceIte, Nat.reduceAdd, Nat.reduceLeDiff, Nat.reduceEqDiff, Nat.reduceSub, Nat.reduceMul, Nat.reduceDiv, SOper.again, same, sameBlk, sameCap, Nat.reduceBneDiff, s_draw2, s_pair, k_pair, asunder, SOper.into, Bool.not_false, Bool.not_true, CL, IS, e0, e1, e2, e3, e4, e5, e6, hy0, hxx, hrE, hr0, gp, i_toNat0, i_le0, i1, i2, hr45, hy45, hx45, tk, tk2, q1, Ends, gives_ret]
        exact ⟨_, rfl⟩
      · rw [if_neg hyn] at e6
        rw [decide_eq_false hyn] at hy45
        simp -implicitDefEqProofs only [c8, ↓v_lenS, SB, POp.val, AOp.val, WOp.val, Lite.bin, intBin, strBin, eqv, eqMany, eq1, AV.asBool, AV.asInt, AV.asNat, AV.asPtr, AV.asStr, resVals, ResV.val, oneOr, wants, skipped, fillAt, putAt, capOf, optNat, bnd, Nat.reduceBEq, reduceIte, Nat.reduceAdd, Nat.reduceLeDiff, Nat.reduceEqDiff, Nat.reduceSub, Nat.reduceMul, Nat.reduceDiv, SOper.again, same, sameBlk, sameCap, Nat.reduceBneDiff, s_draw2, s_pair, k_pair, asunder, SOper.into, Bool.not_false, Bool.not_true, CL, IS, e0, e1, e2, e3, e4, e5, e6, hy0, hxx, hrE, hr0, gp, i_toNat0, i_le0, i1, i2, hr45, hy45, hx45, tk, tk2, q1, Ends, gives_ret]
        exact ⟨_, rfl⟩
    · rw [if_neg hrn] at e6
      rw [decide_eq_false hrn] at hr45
      by_cases hr00 : r = 0
      · rw [decide_eq_true hr00] at hr0
        by_cases hyn : y < 0
        · rw [if_pos hyn] at e6
          rw [decide_eq_true hyn] at hy45
          simp -implicitDefEqProofs only [c8, ↓v_lenS, SB, POp.val, AOp.val, WOp.val, Lite.bin, intBin, strBin, eqv, eqMany, eq1, AV.asBool, AV.asInt, AV.asNat, AV.asPtr, AV.asStr, resVals, ResV.val, oneOr, wants, skipped, fillAt, putAt, capOf, optNat, bnd, Nat.reduceBEq, reduceIte, Nat.reduceAdd, Nat.reduceLeDiff, Nat.reduceEqDiff, Nat.reduceSub, Nat.reduceMul, Nat.reduceDiv, SOper.again, same, sameBlk, sameCap, Nat.reduceBneDiff, s_draw2, s_pair, k_pair, asunder, SOper.into, Bool.not_false, Bool.not_true, CL, IS, e0, e1, e2, e3, e4, e5, e6, hy0, hxx, hrE, hr0, gp, i_toNat0, i_le0, i1, i2, hr45, hy45, tk, tk2, q1, Ends, gives_ret]
          exact ⟨_, rfl⟩
        · rw [if_neg hyn] at e6
          rw [decide_eq_false hyn] at hy45
          simp -implicitDefEqProofs only [c8, ↓v_lenS, SB, POp.val, AOp.val, WOp.val, Lite.bin, intBin, strBin, eqv, eqMany, eq1, AV.asBool, AV.asInt, AV.asNat, AV.asPtr, AV.asStr, resVals, ResV.val, oneOr, wants, skipped, fillAt, putAt, capOf, optNat, bnd, Nat.reduceBEq, reduceIte, Nat.reduceAdd, Nat.reduceLeDiff, Nat.reduceEqDiff, Nat.reduceSub, Nat.reduceMul, Nat.reduceDiv, SOper.again, same, sameBlk, sameCap, Nat.reduceBneDiff, s_draw2, s_pair, k_pair, asunder, SOper.into, Bool.not_false, Bool.not_true, CL, IS, e0, e1, e2, e3, e4, e5, e6, hy0, hxx, hrE, hr0, gp, i_toNat0, i_le0, i1, i2, hr45, hy45, tk, tk2, q1, Ends, gives_ret]
          exact ⟨_, rfl⟩
      · have hs := hsg hr00
        rw [decide_eq_false hrn] at hs
        rw [← hs] at hx45
        rw [decide_eq_false hr00] at hr0
        by_cases hyn : y < 0
        · rw [if_pos hyn] at e6
          rw [decide_eq_true hyn] at hy45
          simp -implicitDefEqProofs only [c8, ↓v_lenS, SB, POp.val, AOp.val, WOp.val, Lite.bin, intBin, strBin, eqv, eqMany, eq1, AV.asBool, AV.asInt, AV.asNat, AV.asPtr, AV.asStr, resVals, ResV.val, oneOr, wants, skipped, fillAt, putAt, capOf, optNat, bnd, Nat.reduceBEq, reduceIte, Nat.reduceAdd, Nat.reduceLeDiff, Nat.reduceEqDiff, Nat.reduceSub, Nat.reduceMul, Nat.reduceDiv, SOper.again, same, sameBlk, sameCap, Nat.reduceBneDiff, s_draw2, s_pair, k_pair, asunder, SOper.into, Bool.not_false, Bool.not_true, CL, IS, e0, e1, e2, e3, e4, e5, e6, hy0, hxx, hrE, hr0, gp, i_toNat0, i_le0, i1, i2, hr45, hy45, hx45, tk, tk2, q1, Ends, gives_ret]
          exact ⟨_, rfl⟩
        · rw [if_neg hyn] at e6
          rw [decide_eq_false hyn] at hy45
          simp -implicitDefEqProofs only [c8, ↓v_lenS, SB, POp.val, AOp.val, WOp.val, Lite.bin, intBin, strBin, eqv, eqMany, eq1, AV.asBool, AV.asInt, AV.asNat, AV.asPtr, AV.asStr, resVals, ResV.val, oneOr, wants, skipped, fillAt, putAt, capOf, optNat, bnd, Nat.reduceBEq, reduceIte, Nat.reduceAdd, Nat.reduceLeDiff, Nat.reduceEqDiff, Nat.reduceSub, Nat.reduceMul, Nat.reduceDiv, SOper.again, same, sameBlk, sameCap, Nat.reduceBneDiff, s_draw2, s_pair, k_pair, asunder, SOper.into, Bool.not_false, Bool.not_true, CL, IS, e0, e1, e2, e3, e4, e5, e6, hy0, hxx, hrE, hr0, gp, i_toNat0, i_le0, i1, i2, hr45, hy45, hx45, tk, tk2, q1, Ends, gives_ret]
          exact ⟨_, rfl⟩

end Go.Lite
