/-
  Several texts in one: BPureC, BMul, BLawA, BLawB.
-/
import Derived.Test.YtpnbhbacpkoddaaDoorQbB
import Derived.Test.YtpnbhbacpkoddaaDoorQbC

/-
  Products of rows of limbs: plain laws.
-/
namespace Go.Lite
set_option linter.unusedSimpArgs false
set_option linter.unusedVariables false

theorem atN_set {l : List Nat} {p v : Nat} (h : p < l.length) : atN (l.set p v) p = v := by
  unfold atN; rw [List.getElem?_set_self h]; rfl

theorem lval_set (B : Nat) {l : List Nat} {p v : Nat} (h : p < l.length) : lval B (l.set p v) + B ^ p * atN l p = lval B l + B ^ p * v := by
  have h1 := lval_split B l h
  have h2 := lval_split B (l.set p v) (j := p) (by simpa using h)
  rw [atN_set h] at h2
  have h3 : (l.set p v).take p = l.take p := by
    rw [List.take_set_of_le (Nat.le_refl p)]
  have h4 : (l.set p v).drop (p + 1) = l.drop (p + 1) := by
    rw [List.drop_set_of_lt (by omega)]
  rw [h3, h4, Nat.mul_add] at h2
  rw [Nat.mul_add] at h1
  omega

theorem under_set {B : Nat} {l : List Nat} (h : Under B l) {p v : Nat} (hv : v < B) : Under B (l.set p v) := fun x hx => by
  rcases List.mem_or_eq_of_mem_set hx with h1 | h1
  · exact h x h1
  · rw [h1]; exact hv

theorem set_same {l : List Nat} {p v : Nat} (h : l[p]? = some v) : l.set p v = l := by
  apply List.ext_getElem?
  intro i
  rw [List.getElem?_set]
  split
  · rename_i e
    subst e
    rw [h, if_pos (List.getElem?_eq_some_iff.1 h).1]
  · rfl

/-- one limb's product is added in, from place i on -/
def mulIn (B a : Nat) (y Z : List Nat) (i : Nat) : Nat → List Nat × Nat
  | 0 => (Z, 0)
  | j + 1 => ((mulIn B a y Z i j).1.set (i + j) ((atN (mulIn B a y Z i j).1 (i + j) + a * atN y j + (mulIn B a y Z i j).2) % B), (atN (mulIn B a y Z i j).1 (i + j) + a * atN y j + (mulIn B a y Z i j).2) / B)

theorem mul_room {B z a b c : Nat} (hz : z < B) (ha : a < B) (hb : b < B) (hc : c < B) : z + a * b + c < B * B := by
  have h1 : a * b ≤ (B - 1) * (B - 1) := Nat.mul_le_mul (by omega) (by omega)
  obtain ⟨k, rfl⟩ : ∃ k, B = k + 1 := ⟨B - 1, by omega⟩
  simp only [Nat.add_sub_cancel] at h1
  have h2 : (k + 1) * (k + 1) = k * k + k + k + 1 := by rw [Nat.mul_add, Nat.add_mul]; omega
  omega

theorem mulIn_ok {B a : Nat} {y Z : List Nat} {i : Nat} (hB : 2 ≤ B) (ha : a < B) (hy : Under B y) (hZ : Under B Z) : ∀ j, i + j ≤ Z.length → (mulIn B a y Z i j).1.length = Z.length ∧ Under B (mulIn B a y Z i j).1 ∧ (mulIn B a y Z i j).2 < B ∧
    lval B (mulIn B a y Z i j).1 + B ^ (i + j) * (mulIn B a y Z i j).2 = lval B Z + B ^ i * (a * lval B (y.take j))
  | 0, _ => ⟨rfl, hZ, by show 0 < B; omega, by simp [mulIn, lval]⟩
  | j + 1, h => by
    obtain ⟨h1, h2, h3, h4⟩ := mulIn_ok (i := i) hB ha hy hZ j (by omega)
    have a1 := atN_lt (by omega) h2 (i + j)
    have a2 := atN_lt (by omega) hy j
    have hr := mul_room a1 ha a2 h3
    refine ⟨by simp [mulIn, h1], under_set h2 (Nat.mod_lt _ (by omega)), Nat.div_lt_of_lt_mul hr, ?_⟩
    have hs := lval_set B (l := (mulIn B a y Z i j).1) (p := i + j) (v := (atN (mulIn B a y Z i j).1 (i + j) + a * atN y j + (mulIn B a y Z i j).2) % B) (by omega)
    show lval B ((mulIn B a y Z i j).1.set (i + j) _) + B ^ (i + (j + 1)) * ((atN (mulIn B a y Z i j).1 (i + j) + a * atN y j + (mulIn B a y Z i j).2) / B) = _
    rw [lval_take_succ]
    generalize (mulIn B a y Z i j).1 = W at *
    generalize (mulIn B a y Z i j).2 = c at *
    generalize lval B (W.set (i + j) ((atN W (i + j) + a * atN y j + c) % B)) = V at *
    generalize hd : atN W (i + j) + a * atN y j + c = d at *
    have e1 : B ^ (i + j) * (d % B) + B ^ (i + j) * B * (d / B) = B ^ (i + j) * d := by rw [Nat.mul_assoc, ← Nat.mul_add, Nat.mod_add_div]
    have e2 : B ^ (i + j) * d = B ^ (i + j) * atN W (i + j) + B ^ (i + j) * (a * atN y j) + B ^ (i + j) * c := by rw [← hd, Nat.mul_add, Nat.mul_add]
    have e3 : B ^ i * (a * (lval B (y.take j) + B ^ j * atN y j)) = B ^ i * (a * lval B (y.take j)) + B ^ (i + j) * (a * atN y j) := by
      rw [Nat.mul_add, Nat.mul_add, Nat.pow_add, Nat.mul_assoc (B ^ i), Nat.mul_left_comm a]
    have e4 : B ^ (i + (j + 1)) = B ^ (i + j) * B := by rw [← Nat.add_assoc, Nat.pow_succ]
    rw [e3, e4]
    omega

/-- .. and where all of it is in, nothing is carried -/
theorem mulIn_end {B a : Nat} {y Z : List Nat} {i : Nat} (hB : 2 ≤ B) (ha : a < B) (hy : Under B y) (hZ : Under B Z) (hlen : i + y.length + 1 ≤ Z.length) (hv : lval B Z < B ^ (i + y.length)) :
    (mulIn B a y Z i (y.length + 1)).2 = 0 ∧ lval B (mulIn B a y Z i (y.length + 1)).1 = lval B Z + B ^ i * (a * lval B y) := by
  obtain ⟨h1, h2, h3, h4⟩ := mulIn_ok (i := i) hB ha hy hZ (y.length + 1) (by omega)
  rw [List.take_of_length_le (by omega)] at h4
  have hly := lval_lt (by omega) hy
  have hle : a * lval B y ≤ (B - 1) * (B ^ y.length - 1) := Nat.mul_le_mul (by omega) (by omega)
  have hp : 0 < B ^ y.length := Nat.pow_pos (by omega)
  have hpi : 0 < B ^ i := Nat.pow_pos (by omega)
  have htot : lval B Z + B ^ i * (a * lval B y) < B ^ (i + (y.length + 1)) := by
    have q1 : B ^ i * (a * lval B y) ≤ B ^ i * ((B - 1) * B ^ y.length) := Nat.mul_le_mul_left _ (Nat.le_trans hle (Nat.mul_le_mul_left _ (by omega)))
    have q2 : B ^ (i + (y.length + 1)) = B ^ (i + y.length) + B ^ i * ((B - 1) * B ^ y.length) := by
      rw [← Nat.add_assoc, Nat.pow_succ, Nat.pow_add]
      obtain ⟨k, rfl⟩ : ∃ k, B = k + 1 := ⟨B - 1, by omega⟩
      simp only [Nat.add_sub_cancel]
      generalize (k + 1) ^ i = u
      generalize (k + 1) ^ y.length = w
      rw [Nat.mul_add, Nat.mul_one, Nat.mul_comm k w, Nat.mul_assoc]
      omega
    omega
  have h0 : (mulIn B a y Z i (y.length + 1)).2 = 0 := by
    rcases Nat.eq_zero_or_pos (mulIn B a y Z i (y.length + 1)).2 with h | h
    · exact h
    · have : B ^ (i + (y.length + 1)) * 1 ≤ B ^ (i + (y.length + 1)) * (mulIn B a y Z i (y.length + 1)).2 := Nat.mul_le_mul_left _ h
      omega
  rw [h0] at h4
  exact ⟨h0, by simpa using h4⟩

/-- where nothing is carried behind the last limb, the next round changes nothing -/
theorem mulIn_stop {B a : Nat} {y Z : List Nat} {i : Nat} (hB : 2 ≤ B) (ha : a < B) (hy : Under B y) (hZ : Under B Z) (hlen : i + y.length + 1 ≤ Z.length) (h0 : (mulIn B a y Z i y.length).2 = 0) : (mulIn B a y Z i (y.length + 1)).1 = (mulIn B a y Z i y.length).1 := by
  obtain ⟨h1, h2, h3, h4⟩ := mulIn_ok (i := i) hB ha hy hZ y.length (by omega)
  show (mulIn B a y Z i y.length).1.set (i + y.length) _ = _
  rw [h0, atN_ge (l := y) (Nat.le_refl _), Nat.mul_zero, Nat.add_zero, Nat.mod_eq_of_lt (atN_lt (by omega) h2 _)]
  have := atN_at (l := (mulIn B a y Z i y.length).1) (i := i + y.length) (by omega)
  exact set_same this

theorem mul_small {B : Nat} (hB : 2 ≤ B) {x y Z : List Nat} (hx : Under B x) (hy : Under B y) {i : Nat} (h : i ≤ x.length) (h3 : lval B Z = lval B (x.take i) * lval B y) : lval B Z < B ^ (i + y.length) := by
  have a1 := lval_lt (by omega) (hx.take i)
  rw [List.length_take, Nat.min_eq_left h] at a1
  have a2 := lval_lt (by omega) hy
  rw [h3, Nat.pow_add]
  exact Nat.mul_lt_mul'' a1 a2

/-- the whole product -/
def mulOut (B : Nat) (x y : List Nat) : Nat → List Nat
  | 0 => List.replicate (x.length + y.length + 1) 0
  | i + 1 => (mulIn B (atN x i) y (mulOut B x y i) i (y.length + 1)).1

theorem lval_zeros (B n : Nat) : lval B (List.replicate n 0) = 0 := by
  induction n with
  | zero => rfl
  | succ n ih => rw [List.replicate_succ, lval, ih]; simp

theorem mulOut_ok {B : Nat} (hB : 2 ≤ B) {x y : List Nat} (hx : Under B x) (hy : Under B y) : ∀ i, i ≤ x.length → (mulOut B x y i).length = x.length + y.length + 1 ∧ Under B (mulOut B x y i) ∧ lval B (mulOut B x y i) = lval B (x.take i) * lval B y
  | 0, _ => ⟨by simp [mulOut], fun d hd => by rw [mulOut] at hd; rw [List.eq_of_mem_replicate hd]; omega, by rw [mulOut, lval_zeros]; simp [lval]⟩
  | i + 1, h => by
    obtain ⟨h1, h2, h3⟩ := mulOut_ok hB hx hy i (by omega)
    have ha := atN_lt (by omega) hx i
    have hv := mul_small hB hx hy (i := i) (by omega) h3
    obtain ⟨g1, g2, _, _⟩ := mulIn_ok (i := i) hB ha hy h2 (y.length + 1) (by omega)
    have g3 := (mulIn_end (i := i) hB ha hy h2 (by omega) hv).2
    refine ⟨by rw [mulOut, g1, h1], by rw [mulOut]; exact g2, ?_⟩
    rw [mulOut, g3, h3, lval_take_succ, Nat.add_mul, Nat.mul_assoc]

end Go.Lite

/-
  Products, as the program does them.
-/
namespace Go.Lite
open Go Go.Proofs
set_option maxRecDepth 100000
set_option linter.unusedSimpArgs false
set_option linter.unusedVariables false

theorem rep_zeros : ∀ n, rep [AV.int .i64 0] n = (List.replicate n 0).flatMap nat1
  | 0 => rfl
  | n + 1 => by rw [rep, rep_zeros n, List.replicate_succ, List.flatMap_cons]; rfl

theorem nats_at {Z : List Nat} {p : Nat} (h : p < Z.length) : (Z.flatMap nat1)[p]? = some (.int .i64 (atN Z p : Nat)) := by
  have h1 := flat_at nat1_len Z p
  rw [Nat.mul_one, atN_at h] at h1
  have h2 : ((Z.flatMap nat1).drop p).take 1 = [.int .i64 (atN Z p : Nat)] := h1
  have h3 : (((Z.flatMap nat1).drop p).take 1)[0]? = some (.int .i64 (atN Z p : Nat)) := by rw [h2]; rfl
  rwa [drop_take0] at h3

theorem nats_set {Z : List Nat} {p v : Nat} (h : p < Z.length) : List.take p (Z.flatMap nat1) ++ [AV.int .i64 (v : Int)] ++ List.drop (p + 1) (Z.flatMap nat1) = (Z.set p v).flatMap nat1 := by
  have h1 := flat_take nat1_len Z p
  have h2 := flat_drop nat1_len Z (p + 1)
  rw [Nat.mul_one] at h1 h2
  rw [h1, h2, List.set_eq_take_append_cons_drop, if_pos h, List.flatMap_append, List.flatMap_cons, List.append_assoc]
  rfl

/-- a made row, told -/
theorem made_shut {Z : List Nat} {H : Heap} {k : Nat} (hne : 0 < Z.length) (hk : H.t.get k = some (.row (Z.flatMap nat1) 0 false none)) : shutV (.slice (.new k) 0 Z.length (.fix Z.length 1)) H = some (vN true Z, H.put k (.row (Z.flatMap nat1) 0 true none)) := by
  rw [shutV_slice]
  have key : ∀ d, shutC (d + 1) (.slice (.new k) 0 Z.length (.fix Z.length 1)) H = some (vN true Z, H.put k (.row (Z.flatMap nat1) 0 true none)) := fun d => by
    simp only [shutC, hk, shutRow, List.drop_zero, Cap.es, Nat.mul_one]
    rw [List.take_of_length_le (Nat.le_of_eq (nats_len Z)), if_pos ⟨nats_len Z, .inr (by decide)⟩, (nats_still Z).map]
    cases Z with
    | nil => simp at hne
    | cons z Z => rfl
  exact key 63

theorem mul_val (x y : Int) : valZ (!(decide (x < 0) == decide (y < 0))) (x.natAbs * y.natAbs) = x * y := by
  unfold valZ
  rcases Int.natAbs_eq x with h1 | h1 <;> rcases Int.natAbs_eq y with h2 | h2
  all_goals
    generalize x.natAbs = a at *
    generalize y.natAbs = b at *
    subst h1; subst h2
  · have e1 : decide ((a : Int) < 0) = false := decide_eq_false (by omega)
    have e2 : decide ((b : Int) < 0) = false := decide_eq_false (by omega)
    rw [e1, e2]; simp
  · have e1 : decide ((a : Int) < 0) = false := decide_eq_false (by omega)
    rw [e1]
    by_cases hb : b = 0
    · subst hb; simp
    · have e2 : decide (-(b : Int) < 0) = true := decide_eq_true (by omega)
      rw [e2]; simp [Int.mul_neg]
  · have e2 : decide ((b : Int) < 0) = false := decide_eq_false (by omega)
    rw [e2]
    by_cases ha : a = 0
    · subst ha; simp
    · have e1 : decide (-(a : Int) < 0) = true := decide_eq_true (by omega)
      rw [e1]; simp [Int.neg_mul]
  · by_cases ha : a = 0
    · subst ha; simp
    · by_cases hb : b = 0
      · subst hb; simp
      · have e1 : decide (-(a : Int) < 0) = true := decide_eq_true (by omega)
        have e2 : decide (-(b : Int) < 0) = true := decide_eq_true (by omega)
        rw [e1, e2]; simp [Int.neg_mul_neg]

/-- what stands while it multiplies -/
def MS (p q : Bool) (x y : List Nat) (Z : List Nat) (i : Nat) (fr : Fr) (H : Heap) : Prop :=
  fr 6 = .ptr (.new 0) 0 ∧ fr 7 = .ptr (.new 1) 0 ∧ fr 8 = .slice (.new 2) 0 (x.length + y.length + 1) (.fix (x.length + y.length + 1) 1) ∧ fr 28 = vN true x ∧ fr 29 = .int .i64 (x.length : Nat) ∧ fr 30 = .int .i64 (i : Nat) ∧
  H.t.get 0 = some (.row [.bool p, vN true x] 0 false (some 45)) ∧ H.t.get 1 = some (.row [.bool q, vN true y] 0 false (some 45)) ∧ H.t.get 2 = some (.row (Z.flatMap nat1) 0 false none)

theorem mul_l0 {n m : Nat} {p q : Bool} {x y Z : List Nat} {i a : Nat} {fr : Fr} {H : Heap} {KK : Ex → Fr → Heap → R} {Q : AV → Heap → Prop} (hx : Under BB x) (hy : Under BB y) (hZ : Under BB Z) (hi : i < x.length) (hZl : Z.length = x.length + y.length + 1) (ha : a < BB) (hv : lval BB Z < BB ^ (i + y.length)) (hlx : x.length ≤ 300000) (hly : y.length ≤ 300000)
    (hm : y.length + 2 < m) (hat : ∀ j, j < y.length + 1 → ∀ H, callN P4 n 34 [vN true y, .int .i64 (j : Nat)] H = some (.ret (.int .i64 (atN y j : Nat)), H))
    (h0 : MS p q x y Z i fr H) (h9 : fr 9 = .int .i64 (i : Nat)) (h10 : fr 10 = .int .i64 (a : Nat)) (h11 : fr 11 = .int .i64 (0 : Nat)) (h12 : fr 12 = .int .i64 (0 : Nat))
    (hK : ∀ (fr : Fr) (H : Heap), MS p q x y (mulIn BB a y Z i (y.length + 1)).1 i fr H → Gives (KK (.exit 2) fr H) Q) :
    Gives (loopR (callN P4 n) n c20_l0 m fr H KK) Q := by
  refine loop_rounds (y.length + 1) (fun j fr H => MS p q x y (mulIn BB a y Z i j).1 i fr H ∧ fr 9 = .int .i64 (i : Nat) ∧ fr 10 = .int .i64 (a : Nat) ∧ fr 11 = .int .i64 ((mulIn BB a y Z i j).2 : Nat) ∧ fr 12 = .int .i64 (j : Nat)) ?_ ?_ m 0 _ _ (by omega) (by omega) ⟨h0, h9, h10, h11, h12⟩
  · rintro j fr H K' hj ⟨⟨h6, h7, h8, h28, h29, h30, g0, g1, g2⟩, h9, h10, h11, h12⟩ hKe hKr hK'
    obtain ⟨p1, p2, p3, p4⟩ := mulIn_ok (i := i) BB2 ha hy hZ j (by omega)
    have hBB := BB_eq
    have a1 := atN_lt (by omega) p2 (i + j)
    have a2 := atN_lt (by omega) hy j
    have hr := mul_room a1 ha a2 p3
    have hBBB : BB * BB = 1000000000000000000 := rfl
    have e34 := hat j hj
    by_cases hst : j < y.length ∨ 0 < (mulIn BB a y Z i j).2
    · have hnx : mulIn BB a y Z i (j + 1) = ((mulIn BB a y Z i j).1.set (i + j) ((atN (mulIn BB a y Z i j).1 (i + j) + a * atN y j + (mulIn BB a y Z i j).2) % BB), (atN (mulIn BB a y Z i j).1 (i + j) + a * atN y j + (mulIn BB a y Z i j).2) / BB) := rfl
      rw [hnx] at hK'
      generalize (mulIn BB a y Z i j).2 = c at *
      generalize (mulIn BB a y Z i j).1 = W at *
      have hpl : i + j < W.length := by omega
      have hpN : i + j < x.length + y.length + 1 := by omega
      have hat' := nats_at hpl
      have hset := fun v => nats_set (v := v) hpl
      have hlen := nats_len W
      have hplC : i + j + 1 ≤ (W.flatMap nat1).length := by omega
      generalize hz : atN W (i + j) = z at *
      generalize hb : atN y j = b at *
      generalize hab : a * b = ab at *
      have w0 : IntKind.i64.wrap ((i : Int) + (j : Int)) = ((i + j : Nat) : Int) := wrap_nat (by omega)
      have w1 : IntKind.i64.wrap ((a : Int) * (b : Int)) = ((ab : Nat) : Int) := by
        have : (a : Int) * (b : Int) = ((ab : Nat) : Int) := by rw [← hab]; simp
        rw [this, wrap64 (by omega) (by omega)]
      have w2 : IntKind.i64.wrap ((z : Int) + (ab : Int)) = ((z + ab : Nat) : Int) := by rw [wrap64 (by omega) (by omega)]; rfl
      have w3 : IntKind.i64.wrap (((z + ab : Nat) : Int) + (c : Int)) = ((z + ab + c : Nat) : Int) := by rw [wrap64 (by omega) (by omega)]; rfl
      have w4 := quo_nat (a := z + ab + c) (b := BB) (by omega) (by omega)
      have w5 := rem_nat (z + ab + c) BB
      rw [BBi] at w4 w5
      have w6 : ((1000000000 : Int) == 0) = false := rfl
      have w7 : ¬ (1000000000 : Int) = 0 := by omega
      have w8 := wrap_succ (i := j) (n := y.length + 1) hj (by omega)
      generalize z + ab + c = d at *
      have hset' := hset (d % BB)
      generalize hC : W.flatMap nat1 = C at *
      generalize hC' : (W.set (i + j) (d % BB)).flatMap nat1 = C' at *
      by_cases hlt : j < y.length
      · have hlt' : (j : Int) < (y.length : Int) := by omega
        simp -implicitDefEqProofs only [c20_l0, ↓v_lenS, SB, POp.val, AOp.val, WOp.val, Lite.bin, intBin, strBin, eqv, eqMany, eq1, AV.asBool, AV.asInt, AV.asNat, AV.asPtr, AV.asStr, resVals, ResV.val, oneOr, wants, skipped, fillAt, putAt, capOf, optNat, bnd, Nat.reduceBEq, reduceIte, Nat.reduceAdd, Nat.reduceLeDiff, Nat.reduceEqDiff, Nat.reduceSub, Nat.reduceMul, Nat.reduceDiv, SOper.again, same, sameBlk, sameCap, Nat.reduceBneDiff, s_draw2, s_pair, k_pair, asunder, SOper.into, Bool.not_false, Bool.not_true, CL, BS, Nat.mul_one, h6, h7, h8, h9, h10, h11, h12, g0, g1, g2, hlt', e34, hpN, hat', hplC, hset', w0, w1, w2, w3, w4, w5, w6, w7, w8]
        refine hK' _ _ ⟨⟨?_, ?_, ?_, ?_, ?_, ?_, ?_, ?_, ?_⟩, ?_, ?_, ?_, ?_⟩
        all_goals simp -implicitDefEqProofs only [↓v_lenS, SB, POp.val, AOp.val, WOp.val, Lite.bin, intBin, strBin, eqv, eqMany, eq1, AV.asBool, AV.asInt, AV.asNat, AV.asPtr, AV.asStr, resVals, ResV.val, oneOr, wants, skipped, fillAt, putAt, capOf, optNat, bnd, Nat.reduceBEq, reduceIte, Nat.reduceAdd, Nat.reduceLeDiff, Nat.reduceEqDiff, Nat.reduceSub, Nat.reduceMul, Nat.reduceDiv, SOper.again, same, sameBlk, sameCap, Nat.reduceBneDiff, s_draw2, s_pair, k_pair, asunder, SOper.into, Bool.not_false, Bool.not_true, h6, h7, h8, h9, h10, h28, h29, h30, g0, g1, hC']
      · have hlt' : ¬ (j : Int) < (y.length : Int) := by omega
        have hc0 : (c : Int) > 0 := by have := hst.resolve_left hlt; omega
        simp -implicitDefEqProofs only [c20_l0, ↓v_lenS, SB, POp.val, AOp.val, WOp.val, Lite.bin, intBin, strBin, eqv, eqMany, eq1, AV.asBool, AV.asInt, AV.asNat, AV.asPtr, AV.asStr, resVals, ResV.val, oneOr, wants, skipped, fillAt, putAt, capOf, optNat, bnd, Nat.reduceBEq, reduceIte, Nat.reduceAdd, Nat.reduceLeDiff, Nat.reduceEqDiff, Nat.reduceSub, Nat.reduceMul, Nat.reduceDiv, SOper.again, same, sameBlk, sameCap, Nat.reduceBneDiff, s_draw2, s_pair, k_pair, asunder, SOper.into, Bool.not_false, Bool.not_true, CL, BS, Nat.mul_one, h6, h7, h8, h9, h10, h11, h12, g0, g1, g2, hlt', hc0, e34, hpN, hat', hplC, hset', w0, w1, w2, w3, w4, w5, w6, w7, w8]
        refine hK' _ _ ⟨⟨?_, ?_, ?_, ?_, ?_, ?_, ?_, ?_, ?_⟩, ?_, ?_, ?_, ?_⟩
        all_goals simp -implicitDefEqProofs only [↓v_lenS, SB, POp.val, AOp.val, WOp.val, Lite.bin, intBin, strBin, eqv, eqMany, eq1, AV.asBool, AV.asInt, AV.asNat, AV.asPtr, AV.asStr, resVals, ResV.val, oneOr, wants, skipped, fillAt, putAt, capOf, optNat, bnd, Nat.reduceBEq, reduceIte, Nat.reduceAdd, Nat.reduceLeDiff, Nat.reduceEqDiff, Nat.reduceSub, Nat.reduceMul, Nat.reduceDiv, SOper.again, same, sameBlk, sameCap, Nat.reduceBneDiff, s_draw2, s_pair, k_pair, asunder, SOper.into, Bool.not_false, Bool.not_true, h6, h7, h8, h9, h10, h28, h29, h30, g0, g1, hC']
    · obtain rfl : j = y.length := by omega
      have hc : (mulIn BB a y Z i y.length).2 = 0 := by omega
      have hstop := mulIn_stop (i := i) BB2 ha hy hZ (by omega) hc
      rw [hstop] at hK
      rw [hc] at h11
      have hc0 : ¬ ((0 : Nat) : Int) > 0 := by omega
      simp -implicitDefEqProofs only [c20_l0, ↓v_lenS, SB, POp.val, AOp.val, WOp.val, Lite.bin, intBin, strBin, eqv, eqMany, eq1, AV.asBool, AV.asInt, AV.asNat, AV.asPtr, AV.asStr, resVals, ResV.val, oneOr, wants, skipped, fillAt, putAt, capOf, optNat, bnd, Nat.reduceBEq, reduceIte, Nat.reduceAdd, Nat.reduceLeDiff, Nat.reduceEqDiff, Nat.reduceSub, Nat.reduceMul, Nat.reduceDiv, SOper.again, same, sameBlk, sameCap, Nat.reduceBneDiff, s_draw2, s_pair, k_pair, asunder, SOper.into, Bool.not_false, Bool.not_true, BS, h7, h11, h12, g1, Int.lt_irrefl, hc0, hKe]
      refine hK _ _ ⟨?_, ?_, ?_, ?_, ?_, ?_, g0, g1, g2⟩
      all_goals simp -implicitDefEqProofs only [↓v_lenS, SB, POp.val, AOp.val, WOp.val, Lite.bin, intBin, strBin, eqv, eqMany, eq1, AV.asBool, AV.asInt, AV.asNat, AV.asPtr, AV.asStr, resVals, ResV.val, oneOr, wants, skipped, fillAt, putAt, capOf, optNat, bnd, Nat.reduceBEq, reduceIte, Nat.reduceAdd, Nat.reduceLeDiff, Nat.reduceEqDiff, Nat.reduceSub, Nat.reduceMul, Nat.reduceDiv, SOper.again, same, sameBlk, sameCap, Nat.reduceBneDiff, s_draw2, s_pair, k_pair, asunder, SOper.into, Bool.not_false, Bool.not_true, h6, h7, h8, h28, h29, h30]
  · rintro fr H K' ⟨⟨h6, h7, h8, h28, h29, h30, g0, g1, g2⟩, h9, h10, h11, h12⟩ hKe hKr
    have hc := (mulIn_end (i := i) BB2 ha hy hZ (by omega) hv).1
    rw [hc] at h11
    have hc0 : ¬ ((0 : Nat) : Int) > 0 := by omega
    have hlt' : ¬ ((y.length + 1 : Nat) : Int) < (y.length : Int) := by omega
    simp -implicitDefEqProofs only [c20_l0, ↓v_lenS, SB, POp.val, AOp.val, WOp.val, Lite.bin, intBin, strBin, eqv, eqMany, eq1, AV.asBool, AV.asInt, AV.asNat, AV.asPtr, AV.asStr, resVals, ResV.val, oneOr, wants, skipped, fillAt, putAt, capOf, optNat, bnd, Nat.reduceBEq, reduceIte, Nat.reduceAdd, Nat.reduceLeDiff, Nat.reduceEqDiff, Nat.reduceSub, Nat.reduceMul, Nat.reduceDiv, SOper.again, same, sameBlk, sameCap, Nat.reduceBneDiff, s_draw2, s_pair, k_pair, asunder, SOper.into, Bool.not_false, Bool.not_true, BS, h7, h11, h12, g1, hlt', hc0, hKe]
    refine hK _ _ ⟨?_, ?_, ?_, ?_, ?_, ?_, g0, g1, g2⟩
    all_goals simp -implicitDefEqProofs only [↓v_lenS, SB, POp.val, AOp.val, WOp.val, Lite.bin, intBin, strBin, eqv, eqMany, eq1, AV.asBool, AV.asInt, AV.asNat, AV.asPtr, AV.asStr, resVals, ResV.val, oneOr, wants, skipped, fillAt, putAt, capOf, optNat, bnd, Nat.reduceBEq, reduceIte, Nat.reduceAdd, Nat.reduceLeDiff, Nat.reduceEqDiff, Nat.reduceSub, Nat.reduceMul, Nat.reduceDiv, SOper.again, same, sameBlk, sameCap, Nat.reduceBneDiff, s_draw2, s_pair, k_pair, asunder, SOper.into, Bool.not_false, Bool.not_true, h6, h7, h8, h28, h29, h30]

theorem mul20 (x y : Int) {k : Nat} (hx : x.natAbs < 10 ^ k) (hy : y.natAbs < 10 ^ k) (hk : k ≤ 2000) : Ret P4 20 [.str (decZ x), .str (decZ y)] (opT (x * y)) := by
  have hl1 := limbs_small hx (m := 300) (by omega)
  have hl2 := limbs_small hy (m := 300) (by omega)
  have hu1 := limbs_below BB2 x.natAbs
  have hu2 := limbs_below BB2 y.natAbs
  have hv1 := lval_limbs BB2 x.natAbs
  have hv2 := lval_limbs BB2 y.natAbs
  have hlz := load30z x hx hk
  have hlz2 := load30z y hy hk
  unfold numV at hlz hlz2
  have htx := text32 true (!(decide (x < 0) == decide (y < 0))) (x.natAbs * y.natAbs) (by
    have h1 : x.natAbs * y.natAbs < 10 ^ (k + k) := by rw [Nat.pow_add]; exact Nat.mul_lt_mul'' hx hy
    have := limbs_small h1 (m := 600) (by omega)
    omega)
  have hmv : (if (!(decide (x < 0) == decide (y < 0))) = true then -((x.natAbs * y.natAbs : Nat) : Int) else ((x.natAbs * y.natAbs : Nat) : Int)) = x * y := mul_val x y
  rw [hmv] at htx
  generalize limbs BB x.natAbs = X at *
  generalize limbs BB y.natAbs = Y at *
  have hok := mulOut_ok BB2 hu1 hu2
  have hfin := hok X.length (Nat.le_refl _)
  rw [List.take_of_length_le (Nat.le_refl _), hv1, hv2] at hfin
  have hres : trimL (mulOut BB X Y X.length) = limbs BB (x.natAbs * y.natAbs) := by rw [← hfin.2.2, limbs_trim BB2 hfin.2.1]
  have ht35 := trim35 true (mulOut BB X Y X.length) (by rw [hfin.1]; omega)
  rw [hres] at ht35
  refine Ret.of rfl (code20 _ _) rfl rfl (fun H => by simp -implicitDefEqProofs only [↓v_lenS, SB, POp.val, AOp.val, WOp.val, Lite.bin, intBin, strBin, eqv, eqMany, eq1, AV.asBool, AV.asInt, AV.asNat, AV.asPtr, AV.asStr, resVals, ResV.val, oneOr, wants, skipped, fillAt, putAt, capOf, optNat, bnd, Nat.reduceBEq, reduceIte, Nat.reduceAdd, Nat.reduceLeDiff, Nat.reduceEqDiff, Nat.reduceSub, Nat.reduceMul, Nat.reduceDiv, SOper.again, same, sameBlk, sameCap, Nat.reduceBneDiff, s_draw2, s_pair, k_pair, asunder, SOper.into, Bool.not_false, Bool.not_true]) ?_
  refine (hlz.and (hlz2.and (ht35.and (htx.and ((Ev.all (List.range (Y.length + 1)) fun j _ => at34 true Y j).and (Ev.ge (X.length + Y.length + 20))))))).mono fun n e H => ?_
  obtain ⟨e1, e2, e3, e4, e5, hge⟩ := e
  unfold opT at e4 ⊢
  have w0 : IntKind.i64.wrap ((X.length : Int) + (Y.length : Int)) = ((X.length + Y.length : Nat) : Int) := wrap_nat (by omega)
  have w1 : IntKind.i64.wrap (((X.length + Y.length : Nat) : Int) + 1) = ((X.length + Y.length + 1 : Nat) : Int) := wrap_succ (n := X.length + Y.length + 1) (by omega) (by omega)
  have c1 : (X.length + Y.length + 1) * 8 ≤ 1099511627776 ∧ X.length + Y.length + 1 ≤ 1099511627776 := by omega
  simp -implicitDefEqProofs only [c20, ↓v_lenS, SB, POp.val, AOp.val, WOp.val, Lite.bin, intBin, strBin, eqv, eqMany, eq1, AV.asBool, AV.asInt, AV.asNat, AV.asPtr, AV.asStr, resVals, ResV.val, oneOr, wants, skipped, fillAt, putAt, capOf, optNat, bnd, Nat.reduceBEq, reduceIte, Nat.reduceAdd, Nat.reduceLeDiff, Nat.reduceEqDiff, Nat.reduceSub, Nat.reduceMul, Nat.reduceDiv, SOper.again, same, sameBlk, sameCap, Nat.reduceBneDiff, s_draw2, s_pair, k_pair, asunder, SOper.into, Bool.not_false, Bool.not_true, CL, BS, e1, e2, w0, w1, c1.1, c1.2, rep_zeros]
  refine loop_gen (fun e fr H => e = .exit 0 ∧ MS (decide (x < 0)) (decide (y < 0)) X Y (mulOut BB X Y X.length) X.length fr H) ?_ fun KK fin => ?_
  · rintro e fr H ⟨rfl, h6, h7, h8, h28, h29, h30, g0, g1, g2⟩
    have hsh := made_shut (by rw [hfin.1]; omega) g2
    rw [hfin.1] at hsh
    simp -implicitDefEqProofs only [↓v_lenS, SB, POp.val, AOp.val, WOp.val, Lite.bin, intBin, strBin, eqv, eqMany, eq1, AV.asBool, AV.asInt, AV.asNat, AV.asPtr, AV.asStr, resVals, ResV.val, oneOr, wants, skipped, fillAt, putAt, capOf, optNat, bnd, Nat.reduceBEq, reduceIte, Nat.reduceAdd, Nat.reduceLeDiff, Nat.reduceEqDiff, Nat.reduceSub, Nat.reduceMul, Nat.reduceDiv, SOper.again, same, sameBlk, sameCap, Nat.reduceBneDiff, s_draw2, s_pair, k_pair, asunder, SOper.into, Bool.not_false, Bool.not_true, CL, BS, k_blockE, h6, h7, h8, g0, g1, hsh, e3, e4, gives_ret]
    exact ⟨_, rfl⟩
  · refine loop_rounds X.length (fun i fr H => MS (decide (x < 0)) (decide (y < 0)) X Y (mulOut BB X Y i) i fr H) ?_ ?_ n 0 _ _ (by omega) (by omega) ?_
    · rintro i fr H K' hi ⟨h6, h7, h8, h28, h29, h30, g0, g1, g2⟩ hKe hKr hK
      obtain ⟨q1, q2, q3⟩ := hok i (by omega)
      have ha := atN_lt (by decide) hu1 i
      have hsm := mul_small BB2 hu1 hu2 (i := i) (by omega) q3
      have hia := iaddr_vN (f := true) (atN_at hi)
      have hlt : (i : Int) < (X.length : Int) := by omega
      have hw := wrap_succ (i := i) (n := X.length) hi (by omega)
      simp -implicitDefEqProofs only [c20_l1, ↓v_lenS, SB, POp.val, AOp.val, WOp.val, Lite.bin, intBin, strBin, eqv, eqMany, eq1, AV.asBool, AV.asInt, AV.asNat, AV.asPtr, AV.asStr, resVals, ResV.val, oneOr, wants, skipped, fillAt, putAt, capOf, optNat, bnd, Nat.reduceBEq, reduceIte, Nat.reduceAdd, Nat.reduceLeDiff, Nat.reduceEqDiff, Nat.reduceSub, Nat.reduceMul, Nat.reduceDiv, SOper.again, same, sameBlk, sameCap, Nat.reduceBneDiff, s_draw2, s_pair, k_pair, asunder, SOper.into, Bool.not_false, Bool.not_true, CL, BS, h28, h29, h30, hlt, hia]
      refine mul_l0 (Z := mulOut BB X Y i) (i := i) (a := atN X i) (p := decide (x < 0)) (q := decide (y < 0)) (x := X) (y := Y) hu1 hu2 q2 hi q1 ha hsm (by omega) (by omega) (by omega) (fun j hj H => e5 j (List.mem_range.2 hj) H) ⟨?_, ?_, ?_, ?_, ?_, ?_, g0, g1, g2⟩ ?_ ?_ ?_ ?_ ?_
      any_goals simp -implicitDefEqProofs only [↓v_lenS, SB, POp.val, AOp.val, WOp.val, Lite.bin, intBin, strBin, eqv, eqMany, eq1, AV.asBool, AV.asInt, AV.asNat, AV.asPtr, AV.asStr, resVals, ResV.val, oneOr, wants, skipped, fillAt, putAt, capOf, optNat, bnd, Nat.reduceBEq, reduceIte, Nat.reduceAdd, Nat.reduceLeDiff, Nat.reduceEqDiff, Nat.reduceSub, Nat.reduceMul, Nat.reduceDiv, SOper.again, same, sameBlk, sameCap, Nat.reduceBneDiff, s_draw2, s_pair, k_pair, asunder, SOper.into, Bool.not_false, Bool.not_true, h6, h7, h8, h28, h29, h30]
      any_goals rfl
      rintro fr H ⟨h6, h7, h8, h28, h29, h30, g0, g1, g2⟩
      simp -implicitDefEqProofs only [↓v_lenS, SB, POp.val, AOp.val, WOp.val, Lite.bin, intBin, strBin, eqv, eqMany, eq1, AV.asBool, AV.asInt, AV.asNat, AV.asPtr, AV.asStr, resVals, ResV.val, oneOr, wants, skipped, fillAt, putAt, capOf, optNat, bnd, Nat.reduceBEq, reduceIte, Nat.reduceAdd, Nat.reduceLeDiff, Nat.reduceEqDiff, Nat.reduceSub, Nat.reduceMul, Nat.reduceDiv, SOper.again, same, sameBlk, sameCap, Nat.reduceBneDiff, s_draw2, s_pair, k_pair, asunder, SOper.into, Bool.not_false, Bool.not_true, k_blockE, h30, hw]
      refine hK _ _ ⟨?_, ?_, ?_, ?_, ?_, ?_, g0, g1, g2⟩
      all_goals simp -implicitDefEqProofs only [↓v_lenS, SB, POp.val, AOp.val, WOp.val, Lite.bin, intBin, strBin, eqv, eqMany, eq1, AV.asBool, AV.asInt, AV.asNat, AV.asPtr, AV.asStr, resVals, ResV.val, oneOr, wants, skipped, fillAt, putAt, capOf, optNat, bnd, Nat.reduceBEq, reduceIte, Nat.reduceAdd, Nat.reduceLeDiff, Nat.reduceEqDiff, Nat.reduceSub, Nat.reduceMul, Nat.reduceDiv, SOper.again, same, sameBlk, sameCap, Nat.reduceBneDiff, s_draw2, s_pair, k_pair, asunder, SOper.into, Bool.not_false, Bool.not_true, h6, h7, h8, h28, h29]
    · rintro fr H K' ⟨h6, h7, h8, h28, h29, h30, g0, g1, g2⟩ hKe hKr
      simp -implicitDefEqProofs only [c20_l1, ↓v_lenS, SB, POp.val, AOp.val, WOp.val, Lite.bin, intBin, strBin, eqv, eqMany, eq1, AV.asBool, AV.asInt, AV.asNat, AV.asPtr, AV.asStr, resVals, ResV.val, oneOr, wants, skipped, fillAt, putAt, capOf, optNat, bnd, Nat.reduceBEq, reduceIte, Nat.reduceAdd, Nat.reduceLeDiff, Nat.reduceEqDiff, Nat.reduceSub, Nat.reduceMul, Nat.reduceDiv, SOper.again, same, sameBlk, sameCap, Nat.reduceBneDiff, s_draw2, s_pair, k_pair, asunder, SOper.into, Bool.not_false, Bool.not_true, h29, h30, Int.lt_irrefl, hKe]
      refine fin _ _ _ ⟨rfl, ?_, ?_, ?_, ?_, ?_, ?_, g0, g1, g2⟩
      all_goals simp -implicitDefEqProofs only [↓v_lenS, SB, POp.val, AOp.val, WOp.val, Lite.bin, intBin, strBin, eqv, eqMany, eq1, AV.asBool, AV.asInt, AV.asNat, AV.asPtr, AV.asStr, resVals, ResV.val, oneOr, wants, skipped, fillAt, putAt, capOf, optNat, bnd, Nat.reduceBEq, reduceIte, Nat.reduceAdd, Nat.reduceLeDiff, Nat.reduceEqDiff, Nat.reduceSub, Nat.reduceMul, Nat.reduceDiv, SOper.again, same, sameBlk, sameCap, Nat.reduceBneDiff, s_draw2, s_pair, k_pair, asunder, SOper.into, Bool.not_false, Bool.not_true, h6, h7, h8, h28, h29, h30]
    · refine ⟨?_, ?_, ?_, ?_, ?_, ?_, ?_, ?_, ?_⟩
      all_goals simp -implicitDefEqProofs only [↓v_lenS, SB, POp.val, AOp.val, WOp.val, Lite.bin, intBin, strBin, eqv, eqMany, eq1, AV.asBool, AV.asInt, AV.asNat, AV.asPtr, AV.asStr, resVals, ResV.val, oneOr, wants, skipped, fillAt, putAt, capOf, optNat, bnd, Nat.reduceBEq, reduceIte, Nat.reduceAdd, Nat.reduceLeDiff, Nat.reduceEqDiff, Nat.reduceSub, Nat.reduceMul, Nat.reduceDiv, SOper.again, same, sameBlk, sameCap, Nat.reduceBneDiff, s_draw2, s_pair, k_pair, asunder, SOper.into, Bool.not_false, Bool.not_true]
      all_goals rfl

end Go.Lite

/-
  The law BigOrder.
-/
namespace Go.Lite
open Go Go.Proofs
set_option maxRecDepth 100000
set_option linter.unusedSimpArgs false
set_option linter.unusedVariables false

theorem opT_small {z : Int} (h : z.natAbs < 10 ^ 200) : opT z = .tuple [.str (decZ z), .bool true] := by
  unfold opT opZ; rw [if_pos h, decide_eq_true h]
theorem decZ_nil (z : Int) : (decZ z == ([] : List Nat)) = false := by simpa using decZ_ne z
theorem decZ_eq0 (z : Int) : (decZ z == ([48] : List Nat)) = decide (z = 0) := by
  have h0 : decZ 0 = [48] := by simp [decZ, decN_small]
  by_cases h : z = 0
  · subst h; rw [h0]; rfl
  · rw [decide_eq_false h]
    have : decZ z ≠ [48] := fun e => h (decZ_inj (e.trans h0.symm))
    simpa using this
theorem decZ_head (z : Int) : ∃ c t, decZ z = c :: t ∧ c < 256 ∧ ((c : Int) == 45) = decide (z < 0) := by
  have h := negS_decZ z
  cases hd : decZ z with
  | nil => exact absurd hd (decZ_ne z)
  | cons c t =>
    rw [hd] at h
    refine ⟨c, t, rfl, ?_, ?_⟩
    · unfold decZ at hd
      split at hd
      · simp at hd; omega
      · have := decN_256 z.natAbs c (by rw [hd]; simp); omega
    · rw [← h]
      by_cases hc : c = 45
      · subst hc; rfl
      · have h1 : ((c : Int) == 45) = false := by simp; omega
        have h2 : (c == 45) = false := by simpa using hc
        rw [h1]; simp only [negS, h2]
theorem decZ_beq (a b : Int) : (decZ a == decZ b) = decide (a = b) := by
  by_cases h : a = b
  · subst h; simp
  · rw [decide_eq_false h]
    simpa using fun e => h (decZ_inj e)
theorem sgn_trans {x y z : Int} (h : x ≤ y) (hyz : ¬ sgn (y - z) > 0) : sgn (x - z) ≤ 0 := by
  have h1 : ¬ 0 < y - z := fun h => hyz (by rw [sgn_pos h]; omega)
  unfold sgn
  split
  · omega
  · rw [if_neg (by omega)]; omega

theorem law4 (f0 f1 f2 : Bool) (k0 k1 k2 : List Int) (b0 b1 : Bool) (h0 : k0.length ≤ 9223372036854775807) (h1 : k1.length ≤ 9223372036854775807) (h2 : k2.length ≤ 9223372036854775807) : Ret P4 4 [vI f0 k0, vI f1 k1, vI f2 k2, .bool b0, .bool b1] (.bool true) := by
  refine Ret.of rfl (code4 _ _) rfl rfl (fun H => by simp -implicitDefEqProofs only [↓v_lenS, SB, POp.val, AOp.val, WOp.val, Lite.bin, intBin, strBin, eqv, eqMany, eq1, AV.asBool, AV.asInt, AV.asNat, AV.asPtr, AV.asStr, resVals, ResV.val, oneOr, wants, skipped, fillAt, putAt, capOf, optNat, bnd, Nat.reduceBEq, reduceIte, Nat.reduceAdd, Nat.reduceLeDiff, Nat.reduceEqDiff, Nat.reduceSub, Nat.reduceMul, Nat.reduceDiv, SOper.again, same, sameBlk, sameCap, Nat.reduceBneDiff, s_draw2, s_pair, k_pair, asunder, SOper.into, Bool.not_false, Bool.not_true, IS]) ?_
  have n0 := num14 f0 k0 90 b0 h0 (by omega)
  have n1 := num14 f1 k1 90 b1 h1 (by omega)
  have n2 := num14 f2 k2 90 b0 h2 (by omega)
  have l0 := numZ_lt k0 90 b0
  have l1 := numZ_lt k1 90 b1
  have l2 := numZ_lt k2 90 b0
  generalize numZ k0 90 b0 = x at *
  generalize numZ k1 90 b1 = y at *
  generalize numZ k2 90 b0 = z at *
  have s1 := sub18 x y l0 l1 (by omega)
  have p90 : (10 : Nat) ^ 90 + 10 ^ 90 ≤ 10 ^ 200 := by decide
  rw [opT_small (by omega)] at s1
  refine (known13.and (n0.and (n1.and (n2.and (s1.and ((cmp19 x y l0 l1 (by omega)).and ((cmp19 y x l1 l0 (by omega)).and ((cmp19 y z l1 l2 (by omega)).and (cmp19 x z l0 l2 (by omega)))))))))).mono fun n e H => ?_
  obtain ⟨e0, e1, e2, e3, e4, e5, e6, e7, e8⟩ := e
  have hE := decZ_nil (x - y)
  have hZ := decZ_eq0 (x - y)
  have hN := decZ_beq x y
  obtain ⟨c, t, hd, hc, h45⟩ := decZ_head (x - y)
  rw [hd] at e4 hE hZ
  have e90 : ((90 : Nat) : Int) = 90 := rfl
  rw [e90] at e1 e2 e3
  generalize decZ x = sx at *
  generalize decZ y = sy at *
  generalize decZ z = sz at *
  rcases Int.lt_trichotomy (x - y) 0 with hlt | heq | hgt
  · have g1 := sgn_neg hlt
    have g2 : sgn (y - x) = 1 := sgn_pos (by omega)
    rw [g1] at e5; rw [g2] at e6
    rw [decide_eq_false (by omega)] at hZ
    rw [decide_eq_true hlt] at h45
    rw [decide_eq_false (by omega)] at hN
    have w1 : ((-1 : Int) == -1) = true := rfl
    have w2 : IntKind.i64.wrap (0 - (-1)) = 1 := by rw [wrap64 (by omega) (by omega)]; rfl
    have w3 : ((1 : Int) == 1) = true := rfl
    have w4 : ¬ (-1 : Int) > 0 := by omega
    have w5 : ((-1 : Int) != 0) = true := rfl
    by_cases hyz : sgn (y - z) > 0
    · simp -implicitDefEqProofs only [c4, ↓v_lenS, SB, POp.val, AOp.val, WOp.val, Lite.bin, intBin, strBin, eqv, eqMany, eq1, AV.asBool, AV.asInt, AV.asNat, AV.asPtr, AV.asStr, resVals, ResV.val, oneOr, wants, skipped, fillAt, putAt, capOf, optNat, bnd, Nat.reduceBEq, reduceIte, Nat.reduceAdd, Nat.reduceLeDiff, Nat.reduceEqDiff, Nat.reduceSub, Nat.reduceMul, Nat.reduceDiv, SOper.again, same, sameBlk, sameCap, Nat.reduceBneDiff, s_draw2, s_pair, k_pair, asunder, SOper.into, Bool.not_false, Bool.not_true, CL, IS, e0, e1, e2, e3, e4, e5, e6, e7, e8, hd, hE, hZ, h45, hN, w1, w2, w3, w4, w5, hyz, i_toNat0, i_le0, Ends, gives_ret]
      exact ⟨_, rfl⟩
    · have hxz : sgn (x - z) ≤ 0 := sgn_trans (by omega) hyz
      simp -implicitDefEqProofs only [c4, ↓v_lenS, SB, POp.val, AOp.val, WOp.val, Lite.bin, intBin, strBin, eqv, eqMany, eq1, AV.asBool, AV.asInt, AV.asNat, AV.asPtr, AV.asStr, resVals, ResV.val, oneOr, wants, skipped, fillAt, putAt, capOf, optNat, bnd, Nat.reduceBEq, reduceIte, Nat.reduceAdd, Nat.reduceLeDiff, Nat.reduceEqDiff, Nat.reduceSub, Nat.reduceMul, Nat.reduceDiv, SOper.again, same, sameBlk, sameCap, Nat.reduceBneDiff, s_draw2, s_pair, k_pair, asunder, SOper.into, Bool.not_false, Bool.not_true, CL, IS, e0, e1, e2, e3, e4, e5, e6, e7, e8, hd, hE, hZ, h45, hN, w1, w2, w3, w4, w5, hyz, hxz, i_toNat0, i_le0, Ends, gives_ret]
      exact ⟨_, rfl⟩
  · have g1 : sgn (x - y) = 0 := by rw [heq]; rfl
    have g2 : sgn (y - x) = 0 := by rw [show y - x = 0 by omega]; rfl
    rw [g1] at e5; rw [g2] at e6
    rw [decide_eq_true heq] at hZ
    rw [decide_eq_true (by omega)] at hN
    have w1 : ((0 : Int) == 0) = true := rfl
    have w2 : IntKind.i64.wrap (0 - 0) = 0 := by rw [wrap64 (by omega) (by omega)]; rfl
    have w4 : ¬ (0 : Int) > 0 := by omega
    have w5 : ((0 : Int) != 0) = false := rfl
    by_cases hyz : sgn (y - z) > 0
    · simp -implicitDefEqProofs only [c4, ↓v_lenS, SB, POp.val, AOp.val, WOp.val, Lite.bin, intBin, strBin, eqv, eqMany, eq1, AV.asBool, AV.asInt, AV.asNat, AV.asPtr, AV.asStr, resVals, ResV.val, oneOr, wants, skipped, fillAt, putAt, capOf, optNat, bnd, Nat.reduceBEq, reduceIte, Nat.reduceAdd, Nat.reduceLeDiff, Nat.reduceEqDiff, Nat.reduceSub, Nat.reduceMul, Nat.reduceDiv, SOper.again, same, sameBlk, sameCap, Nat.reduceBneDiff, s_draw2, s_pair, k_pair, asunder, SOper.into, Bool.not_false, Bool.not_true, CL, IS, e0, e1, e2, e3, e4, e5, e6, e7, e8, hd, hE, hZ, h45, hN, w1, w2, w4, w5, hyz, i_toNat0, i_le0, Ends, gives_ret]
      exact ⟨_, rfl⟩
    · have hxz : sgn (x - z) ≤ 0 := sgn_trans (by omega) hyz
      simp -implicitDefEqProofs only [c4, ↓v_lenS, SB, POp.val, AOp.val, WOp.val, Lite.bin, intBin, strBin, eqv, eqMany, eq1, AV.asBool, AV.asInt, AV.asNat, AV.asPtr, AV.asStr, resVals, ResV.val, oneOr, wants, skipped, fillAt, putAt, capOf, optNat, bnd, Nat.reduceBEq, reduceIte, Nat.reduceAdd, Nat.reduceLeDiff, Nat.reduceEqDiff, Nat.reduceSub, Nat.reduceMul, Nat.reduceDiv, SOper.again, same, sameBlk, sameCap, Nat.reduceBneDiff, s_draw2, s_pair, k_pair, asunder, SOper.into, Bool.not_false, Bool.not_true, CL, IS, e0, e1, e2, e3, e4, e5, e6, e7, e8, hd, hE, hZ, h45, hN, w1, w2, w4, w5, hyz, hxz, i_toNat0, i_le0, Ends, gives_ret]
      exact ⟨_, rfl⟩
  · have g1 := sgn_pos hgt
    have g2 : sgn (y - x) = -1 := sgn_neg (by omega)
    rw [g1] at e5; rw [g2] at e6
    rw [decide_eq_false (by omega)] at hZ
    rw [decide_eq_false (by omega)] at h45
    rw [decide_eq_false (by omega)] at hN
    have w1 : ((-1 : Int) == -1) = true := rfl
    have w2 : IntKind.i64.wrap (0 - 1) = -1 := by rw [wrap64 (by omega) (by omega)]; rfl
    have w3 : ((1 : Int) == 1) = true := rfl
    have w4 : (1 : Int) > 0 := by omega
    have w5 : ((1 : Int) != 0) = true := rfl
    simp -implicitDefEqProofs only [c4, ↓v_lenS, SB, POp.val, AOp.val, WOp.val, Lite.bin, intBin, strBin, eqv, eqMany, eq1, AV.asBool, AV.asInt, AV.asNat, AV.asPtr, AV.asStr, resVals, ResV.val, oneOr, wants, skipped, fillAt, putAt, capOf, optNat, bnd, Nat.reduceBEq, reduceIte, Nat.reduceAdd, Nat.reduceLeDiff, Nat.reduceEqDiff, Nat.reduceSub, Nat.reduceMul, Nat.reduceDiv, SOper.again, same, sameBlk, sameCap, Nat.reduceBneDiff, s_draw2, s_pair, k_pair, asunder, SOper.into, Bool.not_false, Bool.not_true, CL, IS, e0, e1, e2, e3, e4, e5, e6, e7, e8, hd, hE, hZ, h45, hN, w1, w2, w3, w4, w5, i_toNat0, i_le0, Ends, gives_ret]
    exact ⟨_, rfl⟩

end Go.Lite

/-
  The laws BigSigns, BigRules.
-/
namespace Go.Lite
open Go Go.Proofs
set_option maxRecDepth 100000
set_option linter.unusedSimpArgs false
set_option linter.unusedVariables false

theorem lift_pow {n j k : Nat} (h : n < 10 ^ j) (hk : j ≤ k) : n < 10 ^ k := Nat.lt_of_lt_of_le h (Nat.pow_le_pow_right (by omega) hk)

theorem addR {x y z : Int} (j k : Nat) (hx : x.natAbs < 10 ^ j) (hy : y.natAbs < 10 ^ k) (hj : j ≤ 199) (hk : k ≤ 199) (hz : x + y = z) : Ret P4 21 [.str (decZ x), .str (decZ y)] (.tuple [.str (decZ z), .bool true]) := by
  have h1 := lift_pow hx hj
  have h2 := lift_pow hy hk
  have := add21 x y h1 h2 (by omega)
  have h3 : (10 : Nat) ^ 200 = 10 ^ 199 * 10 := Nat.pow_succ ..
  rw [hz] at this
  rwa [opT_small (by omega)] at this

theorem subR {x y z : Int} (j k : Nat) (hx : x.natAbs < 10 ^ j) (hy : y.natAbs < 10 ^ k) (hj : j ≤ 199) (hk : k ≤ 199) (hz : x - y = z) : Ret P4 18 [.str (decZ x), .str (decZ y)] (.tuple [.str (decZ z), .bool true]) := by
  have h1 := lift_pow hx hj
  have h2 := lift_pow hy hk
  have := sub18 x y h1 h2 (by omega)
  have h3 : (10 : Nat) ^ 200 = 10 ^ 199 * 10 := Nat.pow_succ ..
  rw [hz] at this
  rwa [opT_small (by omega)] at this

theorem mul_lt {x y : Int} {j k : Nat} (hx : x.natAbs < 10 ^ j) (hy : y.natAbs < 10 ^ k) : (x * y).natAbs < 10 ^ (j + k) := by
  rw [Int.natAbs_mul, Nat.pow_add]; exact Nat.mul_lt_mul'' hx hy
theorem add_lt {x y : Int} {k : Nat} (hx : x.natAbs < 10 ^ k) (hy : y.natAbs < 10 ^ k) : (x + y).natAbs < 10 ^ (k + 1) := by
  rw [Nat.pow_succ]; omega

theorem mulR {x y z : Int} (j k : Nat) (hx : x.natAbs < 10 ^ j) (hy : y.natAbs < 10 ^ k) (hjk : j + k ≤ 200) (hz : x * y = z) : Ret P4 20 [.str (decZ x), .str (decZ y)] (.tuple [.str (decZ z), .bool true]) := by
  have h1 := lift_pow hx (k := 200) (by omega)
  have h2 := lift_pow hy (k := 200) (by omega)
  have := mul20 x y h1 h2 (by omega)
  have h3 := lift_pow (mul_lt hx hy) hjk
  rw [hz] at this h3
  rwa [opT_small h3] at this

theorem cmpR (x y : Int) (hx : x.natAbs < 10 ^ 200) (hy : y.natAbs < 10 ^ 200) : Ret P4 19 [.str (decZ x), .str (decZ y)] (.int .i64 (sgn (x - y))) := cmp19 x y hx hy (by omega)

theorem decZ_flip {x : Int} (h : 0 < x) : decZ (-x) = 45 :: decZ x := by
  obtain ⟨n, rfl⟩ : ∃ n : Nat, x = n := ⟨x.toNat, by omega⟩
  rw [decZ_neg (by omega), decZ_nonneg]
theorem z0 : decZ 0 = [48] := by simp [decZ, decN_small]
theorem numZ_nonneg (ks : List Int) (most : Nat) : 0 ≤ numZ ks most false := by unfold numZ; simp

theorem law6 (f0 f1 f2 : Bool) (k0 k1 k2 : List Int) (b0 b1 : Bool) (h0 : k0.length ≤ 9223372036854775807) (h1 : k1.length ≤ 9223372036854775807) (h2 : k2.length ≤ 9223372036854775807) : Ret P4 6 [vI f0 k0, vI f1 k1, vI f2 k2, .bool b0, .bool b1] (.bool true) := by
  refine Ret.of rfl (code6 _ _) rfl rfl (fun H => by simp -implicitDefEqProofs only [↓v_lenS, SB, POp.val, AOp.val, WOp.val, Lite.bin, intBin, strBin, eqv, eqMany, eq1, AV.asBool, AV.asInt, AV.asNat, AV.asPtr, AV.asStr, resVals, ResV.val, oneOr, wants, skipped, fillAt, putAt, capOf, optNat, bnd, Nat.reduceBEq, reduceIte, Nat.reduceAdd, Nat.reduceLeDiff, Nat.reduceEqDiff, Nat.reduceSub, Nat.reduceMul, Nat.reduceDiv, SOper.again, same, sameBlk, sameCap, Nat.reduceBneDiff, s_draw2, s_pair, k_pair, asunder, SOper.into, Bool.not_false, Bool.not_true, IS]) ?_
  have n0 := num14 f0 k0 60 b0 h0 (by omega)
  have n1 := num14 f1 k1 60 b1 h1 (by omega)
  have n2 := num14 f2 k2 60 (!(b0 == b1)) h2 (by omega)
  have lx := numZ_lt k0 60 b0
  have ly := numZ_lt k1 60 b1
  have lz := numZ_lt k2 60 (!(b0 == b1))
  generalize numZ k0 60 b0 = x at *
  generalize numZ k1 60 b1 = y at *
  generalize numZ k2 60 (!(b0 == b1)) = z at *
  have lA := add_lt lx ly
  have lB := add_lt ly lz
  have lP := mul_lt lx ly
  have lQ := mul_lt lx lz
  have lT := mul_lt ly lz
  have r14 := addR 60 60 lx ly (by omega) (by omega) rfl
  have r16 := addR (z := x + y) 60 60 ly lx (by omega) (by omega) (by omega)
  have r18 := addR 60 60 ly lz (by omega) (by omega) rfl
  have r20 := addR (z := x + y + z) 61 60 lA lz (by omega) (by omega) rfl
  have r22 := addR (z := x + y + z) 60 61 lx lB (by omega) (by omega) (by omega)
  have r24 := subR (z := x) 61 60 lA ly (by omega) (by omega) (by omega)
  have r26 := mulR 60 60 lx ly (by omega) rfl
  have r28 := mulR (z := x * y) 60 60 ly lx (by omega) (Int.mul_comm y x)
  have r30 := mulR 60 60 lx lz (by omega) rfl
  have r32 := mulR (z := x * y + x * z) 60 61 lx lB (by omega) (Int.mul_add x y z)
  have r34 := addR (z := x * y + x * z) 120 120 lP lQ (by omega) (by omega) rfl
  have r36 := mulR (z := x * y * z) 120 60 lP lz (by omega) rfl
  have r38 := mulR 60 60 ly lz (by omega) rfl
  have r40 := mulR (z := x * y * z) 60 120 lx lT (by omega) (Int.mul_assoc x y z).symm
  have hE1 := decZ_nil (x + y)
  have hE2 := decZ_nil (x * y)
  generalize decZ (x + y + z) = sC at *
  generalize decZ (x + y) = sA at *
  generalize decZ (y + z) = sB at *
  generalize decZ (x * y + x * z) = sR at *
  generalize decZ (x * y * z) = sS at *
  generalize decZ (x * y) = sP at *
  generalize decZ (x * z) = sQ at *
  generalize decZ (y * z) = sT at *
  generalize decZ x = sx at *
  generalize decZ y = sy at *
  generalize decZ z = sz at *
  refine (known13.and (n0.and (n1.and (n2.and (r14.and (r16.and (r18.and (r20.and (r22.and (r24.and (r26.and (r28.and (r30.and (r32.and (r34.and (r36.and (r38.and r40))))))))))))))))).mono fun n e H => ?_
  obtain ⟨e0, e1, e2, e3, e4, e5, e6, e7, e8, e9, e10, e11, e12, e13, e14, e15, e16, e17⟩ := e
  have e60 : ((60 : Nat) : Int) = 60 := rfl
  rw [e60] at e1 e2 e3
  simp -implicitDefEqProofs only [c6, ↓v_lenS, SB, POp.val, AOp.val, WOp.val, Lite.bin, intBin, strBin, eqv, eqMany, eq1, AV.asBool, AV.asInt, AV.asNat, AV.asPtr, AV.asStr, resVals, ResV.val, oneOr, wants, skipped, fillAt, putAt, capOf, optNat, bnd, Nat.reduceBEq, reduceIte, Nat.reduceAdd, Nat.reduceLeDiff, Nat.reduceEqDiff, Nat.reduceSub, Nat.reduceMul, Nat.reduceDiv, SOper.again, same, sameBlk, sameCap, Nat.reduceBneDiff, s_draw2, s_pair, k_pair, asunder, SOper.into, Bool.not_false, Bool.not_true, CL, IS, e0, e1, e2, e3, e4, e5, e6, e7, e8, e9, e10, e11, e12, e13, e14, e15, e16, e17, hE1, hE2, Ends, gives_ret]
  exact ⟨_, rfl⟩

theorem law5 (f0 f1 : Bool) (k0 k1 : List Int) (h0 : k0.length ≤ 9223372036854775807) (h1 : k1.length ≤ 9223372036854775807) : Ret P4 5 [vI f0 k0, vI f1 k1] (.bool true) := by
  refine Ret.of rfl (code5 _ _) rfl rfl (fun H => by simp -implicitDefEqProofs only [↓v_lenS, SB, POp.val, AOp.val, WOp.val, Lite.bin, intBin, strBin, eqv, eqMany, eq1, AV.asBool, AV.asInt, AV.asNat, AV.asPtr, AV.asStr, resVals, ResV.val, oneOr, wants, skipped, fillAt, putAt, capOf, optNat, bnd, Nat.reduceBEq, reduceIte, Nat.reduceAdd, Nat.reduceLeDiff, Nat.reduceEqDiff, Nat.reduceSub, Nat.reduceMul, Nat.reduceDiv, SOper.again, same, sameBlk, sameCap, Nat.reduceBneDiff, s_draw2, s_pair, k_pair, asunder, SOper.into, Bool.not_false, Bool.not_true, IS]) ?_
  have n0 := num14 f0 k0 90 false h0 (by omega)
  have n1 := num14 f1 k1 90 false h1 (by omega)
  have lx := numZ_lt k0 90 false
  have ly := numZ_lt k1 90 false
  have px := numZ_nonneg k0 90
  have py := numZ_nonneg k1 90
  generalize numZ k0 90 false = x at *
  generalize numZ k1 90 false = y at *
  have lP := mul_lt lx ly
  have r11 := mulR 90 90 lx ly (by omega) rfl
  have hx0 := decZ_eq0 x
  have hy0 := decZ_eq0 y
  have e90 : ((90 : Nat) : Int) = 90 := rfl
  by_cases hz : x = 0 ∨ y = 0
  · have hP : x * y = 0 := by rcases hz with h | h <;> simp [h]
    rw [hP, z0] at r11
    have hb : (([48] : List Nat) == [48]) = true := rfl
    refine (known13.and (n0.and (n1.and r11))).mono fun n e H => ?_
    obtain ⟨e0, e1, e2, e3⟩ := e
    rw [e90] at e1 e2
    by_cases hx : x = 0
    · rw [decide_eq_true hx] at hx0
      generalize decZ x = sx at *
      generalize decZ y = sy at *
      simp -implicitDefEqProofs only [c5, ↓v_lenS, SB, POp.val, AOp.val, WOp.val, Lite.bin, intBin, strBin, eqv, eqMany, eq1, AV.asBool, AV.asInt, AV.asNat, AV.asPtr, AV.asStr, resVals, ResV.val, oneOr, wants, skipped, fillAt, putAt, capOf, optNat, bnd, Nat.reduceBEq, reduceIte, Nat.reduceAdd, Nat.reduceLeDiff, Nat.reduceEqDiff, Nat.reduceSub, Nat.reduceMul, Nat.reduceDiv, SOper.again, same, sameBlk, sameCap, Nat.reduceBneDiff, s_draw2, s_pair, k_pair, asunder, SOper.into, Bool.not_false, Bool.not_true, CL, IS, e0, e1, e2, e3, hx0, hb, Ends, gives_ret]
      exact ⟨_, rfl⟩
    · rw [decide_eq_false hx] at hx0
      rw [decide_eq_true (hz.resolve_left hx)] at hy0
      generalize decZ x = sx at *
      generalize decZ y = sy at *
      simp -implicitDefEqProofs only [c5, ↓v_lenS, SB, POp.val, AOp.val, WOp.val, Lite.bin, intBin, strBin, eqv, eqMany, eq1, AV.asBool, AV.asInt, AV.asNat, AV.asPtr, AV.asStr, resVals, ResV.val, oneOr, wants, skipped, fillAt, putAt, capOf, optNat, bnd, Nat.reduceBEq, reduceIte, Nat.reduceAdd, Nat.reduceLeDiff, Nat.reduceEqDiff, Nat.reduceSub, Nat.reduceMul, Nat.reduceDiv, SOper.again, same, sameBlk, sameCap, Nat.reduceBneDiff, s_draw2, s_pair, k_pair, asunder, SOper.into, Bool.not_false, Bool.not_true, CL, IS, e0, e1, e2, e3, hx0, hy0, hb, Ends, gives_ret]
      exact ⟨_, rfl⟩
  · have hx : 0 < x := by omega
    have hy : 0 < y := by omega
    have hP : 0 < x * y := Int.mul_pos hx hy
    have lx' : (-x).natAbs < 10 ^ 90 := by rw [Int.natAbs_neg]; exact lx
    have ly' : (-y).natAbs < 10 ^ 90 := by rw [Int.natAbs_neg]; exact ly
    have r9 := addR (z := 0) 90 90 lx lx' (by omega) (by omega) (by omega)
    have r13 := mulR (z := -(x * y)) 90 90 lx' ly (by omega) (Int.neg_mul x y)
    have r15 := mulR (z := x * y) 90 90 lx' ly' (by omega) (Int.neg_mul_neg x y)
    have r17 := addR (z := -(x + y)) 90 90 lx' ly' (by omega) (by omega) (by omega)
    have r19 := addR 90 90 lx ly (by omega) (by omega) rfl
    have rc1 := cmpR (-x) 0 (lift_pow lx' (by omega)) (by decide)
    have rc2 := cmpR x 0 (lift_pow lx (by omega)) (by decide)
    rw [sgn_neg (by omega)] at rc1
    rw [sgn_pos (by omega)] at rc2
    rw [decZ_flip hx] at r9 r13 r15 r17 rc1
    rw [decZ_flip hy] at r15 r17
    rw [decZ_flip hP] at r13
    rw [decZ_flip (by omega : 0 < x + y)] at r17
    rw [z0] at r9 rc1 rc2
    rw [decide_eq_false (by omega)] at hx0 hy0
    have hE := decZ_nil (x * y)
    have d1 := decZ_len lx (by omega)
    have d2 := decZ_len ly (by omega)
    have d3 := decZ_len (add_lt lx ly) (by omega)
    have d4 := decZ_len lP (by omega)
    generalize decZ (x * y) = sP at *
    generalize decZ (x + y) = sA at *
    generalize decZ x = sx at *
    generalize decZ y = sy at *
    refine (known13.and (n0.and (n1.and (r11.and (r9.and (r13.and (r15.and (r17.and (r19.and (rc1.and rc2)))))))))).mono fun n e H => ?_
    obtain ⟨e0, e1, e2, e3, e4, e5, e6, e7, e8, e9, e10⟩ := e
    rw [e90] at e1 e2
    have l1 : 1 + sx.length ≤ 4611686018427387904 := by omega
    have l2 : 1 + sy.length ≤ 4611686018427387904 := by omega
    have l3 : 1 + sA.length ≤ 4611686018427387904 := by omega
    have l4 : 1 + sP.length ≤ 4611686018427387904 := by omega
    have hb : (([48] : List Nat) == [48]) = true := rfl
    have q1 : (-1 : Int) < 0 := by omega
    have q2 : (1 : Int) > 0 := by omega
    simp -implicitDefEqProofs only [c5, ↓v_lenS, SB, POp.val, AOp.val, WOp.val, Lite.bin, intBin, strBin, eqv, eqMany, eq1, AV.asBool, AV.asInt, AV.asNat, AV.asPtr, AV.asStr, resVals, ResV.val, oneOr, wants, skipped, fillAt, putAt, capOf, optNat, bnd, Nat.reduceBEq, reduceIte, Nat.reduceAdd, Nat.reduceLeDiff, Nat.reduceEqDiff, Nat.reduceSub, Nat.reduceMul, Nat.reduceDiv, SOper.again, same, sameBlk, sameCap, Nat.reduceBneDiff, s_draw2, s_pair, k_pair, asunder, SOper.into, Bool.not_false, Bool.not_true, CL, IS, e0, e1, e2, e3, e4, e5, e6, e7, e8, e9, e10, hx0, hy0, hE, hb, l1, l2, l3, l4, q1, q2, Ends, gives_ret]
    exact ⟨_, rfl⟩

end Go.Lite
