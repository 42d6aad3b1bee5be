/-
  DatumMarks by the interpreter.
-/
import Derived.Test.YtibjdfajafilhaaELawD
namespace Go.Lite
open Go Go.Proofs
set_option maxRecDepth 100000
set_option linter.unusedSimpArgs false
set_option linter.unusedVariables false

theorem app_new {H : Heap} {e n : Nat} {cs : List AV} (hn : n ≠ 0) (hfl : cs.all AV.flat = true) (hb : n ≤ 1048576) : appendOf e 1 8 H (.lst 0 0 true []) (n, cs) = some (.slice (.new H.n) 0 n (.gro 1), H.push (.row cs 1 false (some e))) := by
  unfold appendOf
  rw [if_neg (by simp [hfl])]
  simp only []
  rw [if_neg hn, if_pos ⟨.inr trivial, trivial, by omega, by omega⟩]
  simp [Heap.fresh]

theorem app_grow {H : Heap} {e n j : Nat} {cs : List AV} {c : AV} (hg : H.t.get j = some (.row cs 1 false (some e))) (hl : cs.length = n) (hc : c.flat = true) (hb : n + 1 ≤ 1048576) :
    appendOf e 1 8 H (.slice (.new j) 0 n (.gro 1)) (1, [c]) = some (.slice (.new H.n) 0 (n + 1) (.gro 1), (H.del j).push (.row (cs ++ [c]) 1 false (some e))) := by
  unfold appendOf
  rw [if_neg (by simp [hc])]
  simp only []
  rw [if_neg (by decide), if_pos ⟨by omega, by omega⟩]
  simp only [if_true, hg]
  rw [if_pos (by simp [hl])]
  simp [Heap.fresh, tyKeep, h_ndel]

theorem ints_len (ms : List Int) : (ms.flatMap int1).length = ms.length := by
  have := flat_len int1_len ms
  simpa using this

theorem ints_get (ms : List Int) (i : Nat) : (ms.flatMap int1)[i]? = (ms[i]?).map fun x => AV.int .i64 x := by
  induction ms generalizing i with
  | nil => simp
  | cons m ms ih =>
    cases i with
    | zero => simp [int1]
    | succ i => simpa [int1] using ih i

theorem ints_set (ms : List Int) (i : Nat) (x : Int) (h : i < ms.length) : putAt (ms.flatMap int1) i [.int .i64 x] = (ms.set i x).flatMap int1 := by
  apply List.ext_getElem?
  intro j
  rw [ints_get, List.getElem?_set]
  unfold putAt
  simp only [List.length_singleton]
  have hl := ints_len ms
  rcases Nat.lt_trichotomy j i with hj | hj | hj
  · rw [List.append_assoc, List.getElem?_append_left (by rw [List.length_take]; omega), List.getElem?_take_of_lt hj, ints_get, if_neg (by omega)]
  · subst hj
    rw [List.append_assoc, List.getElem?_append_right (by rw [List.length_take]; omega), List.length_take, if_pos rfl, if_pos h]
    have : j - min j (ms.flatMap int1).length = 0 := by omega
    rw [this]; rfl
  · rw [List.getElem?_append_right (by simp only [List.length_append, List.length_take, List.length_singleton]; omega), List.getElem?_drop, if_neg (by omega)]
    simp only [List.length_append, List.length_take, List.length_singleton]
    rw [show i + 1 + (j - (min i (ms.flatMap int1).length + 1)) = j by omega, ints_get]

theorem shut_ints {d j n : Nat} {H : Heap} {ms : List Int} {fz : Bool} {ty : Option Nat} (hne : ms ≠ []) (hg : H.t.get j = some (.row (ms.flatMap int1) 1 fz ty)) (hn : n = ms.length) : shutC (d + 1) (.slice (.new j) 0 n (.gro 1)) H = some (vInts ms, H.put j (.row (ms.flatMap int1) 1 true ty)) := by
  subst hn
  simp only [shutC, hg, shutRow, List.drop_zero, Cap.es, Nat.mul_one]
  have ht : (ms.flatMap int1).take ms.length = ms.flatMap int1 := by rw [← ints_len ms, List.take_length]
  rw [ht, if_pos ⟨ints_len ms, .inr (by decide)⟩, (Still.flat int1_still ms).map]
  cases ms with
  | nil => exact absurd rfl hne
  | cons m ms => rfl

theorem ints_flat (ms : List Int) : (ms.flatMap int1).all AV.flat = true := by
  rw [List.all_eq_true]
  intro c hc
  obtain ⟨x, _, hx⟩ := List.mem_flatMap.1 hc
  rw [List.mem_singleton.1 hx]
  rfl

theorem zipAll_eq : ∀ (a b : List Int), zipAll (· == ·) a b = decide (a = b)
  | [], [] => by simp [zipAll]
  | [], y :: ys => by simp [zipAll]
  | x :: xs, [] => by simp [zipAll]
  | x :: xs, y :: ys => by
    rw [zipAll, zipAll_eq xs ys]
    by_cases h : x = y <;> by_cases h2 : xs = ys <;> simp [h, h2]

/-- a symbol with marks -/
def sym (ms : List Int) : D := .mk 3 [97] ms [] 0

theorem sym_same (a b : List Int) : (sym a).same (sym b) = decide (a = b) := by
  simp only [sym, D.same, D.sames, zipAll_eq, beq_self_eq_true, Bool.true_and, Bool.and_true]

theorem sym_small {ms : List Int} (h : ms.length ≤ 1048576) : (sym ms).small := ⟨h, by simp, trivial⟩

theorem swap_eq {ms : List Int} {i : Nat} {x y : Int} (hx : ms[i]? = some x) (hy : ms[i + 1]? = some y) : (ms = (ms.set i y).set (i + 1) x) ↔ x = y := by
  have hi := (List.getElem?_eq_some_iff.1 hx).1
  have hi1 := (List.getElem?_eq_some_iff.1 hy).1
  constructor
  · intro h
    have := congrArg (·[i]?) h
    simp only [List.getElem?_set] at this
    rw [if_neg (by omega), hx] at this
    simp only [if_true, hi, Option.some.injEq] at this
    exact this
  · intro h
    subst h
    apply List.ext_getElem?
    intro j
    simp only [List.getElem?_set]
    by_cases h1 : i + 1 = j
    · subst h1; rw [hy]; simp [hi1]
    · rw [if_neg h1]
      by_cases h2 : i = j
      · subst h2; rw [hx]; simp [hi]
      · rw [if_neg h2]

set_option maxHeartbeats 4000000 in
/-- DatumMarks -/
theorem law10 (ms : List Int) (q : Int) (hms : ms.length ≤ 9223372036854775807) : Ret P2 10 [vIntsF false ms, .int .i64 q] (.bool true) := by
  have hargs : ∀ H : Heap, mapHM shutV [vIntsF false ms, .int .i64 q] H = some ([vIntsF false ms, .int .i64 q], H) := fun H => by simp -implicitDefEqProofs only [↓v_lenS, SB, POp.val, AOp.val, WOp.val, Lite.bin, intBin, strBin, eqv, eqMany, eq1, AV.asBool, AV.asInt, AV.asNat, AV.asPtr, AV.asStr, resVals, ResV.val, oneOr, wants, skipped, fillAt, putAt, capOf, optNat, bnd, Nat.reduceBEq, reduceIte, Nat.reduceAdd, Nat.reduceLeDiff, Nat.reduceEqDiff, Nat.reduceSub, Nat.reduceMul, Nat.reduceDiv, SOper.again, same, sameBlk, sameCap, Nat.reduceBneDiff, shutV_vIntsF]
  by_cases h30 : (ms.length : Int) > 30
  · refine Ret.of rfl (code10 _ _) rfl rfl hargs ?_
    refine known11.mono fun n e11 H => ?_
    simp -implicitDefEqProofs only [c10, ↓v_lenS, SB, POp.val, AOp.val, WOp.val, Lite.bin, intBin, strBin, eqv, eqMany, eq1, AV.asBool, AV.asInt, AV.asNat, AV.asPtr, AV.asStr, resVals, ResV.val, oneOr, wants, skipped, fillAt, putAt, capOf, optNat, bnd, Nat.reduceBEq, reduceIte, Nat.reduceAdd, Nat.reduceLeDiff, Nat.reduceEqDiff, Nat.reduceSub, Nat.reduceMul, Nat.reduceDiv, SOper.again, same, sameBlk, sameCap, Nat.reduceBneDiff, CL, e11, len_vIntsF, h30, Ends, gives_ret]
    exact ⟨_, rfl⟩
  · have hl30 : ms.length ≤ 30 := by omega
    have pl : ∀ a : List Int, (sym a).plain = sym [] := fun a => rfl
    have fit : ∀ a : List Int, a.length ≤ 1048576 → (sym a).fit := fun a h => D.small.fit _ (sym_small h)
    have tk : ∀ G : Heap, taken 1 G (vIntsF false ms) = some (ms.length, ms.flatMap int1) := fun G => taken_vList
    -- what is asked of the three symbols, whatever the third one's marks
    have facts : ∀ zs : List Int, zs.length = ms.length → Ev fun n => (∀ H, callN P2 n 21 [(sym ms).v, (sym (ms ++ [5])).v] H = some (.ret (.bool false), H)) ∧ (∀ H, callN P2 n 21 [(sym ms).v, (sym zs).v] H = some (.ret (.bool (decide (ms = zs))), H)) ∧
        (∀ H, callN P2 n 18 [(sym ms).v] H = some (.ret (sym []).v, H)) ∧ (∀ H, callN P2 n 18 [(sym (ms ++ [5])).v] H = some (.ret (sym []).v, H)) ∧ (∀ H, callN P2 n 21 [(sym []).v, (sym []).v] H = some (.ret (.bool true), H)) ∧ (∀ H, callN P2 n 22 [(sym (ms ++ [5])).v, .str [97]] H = some (.ret (.bool true), H)) := by
      intro zs hz
      have c := (same21 (sym ms) (fit _ (by omega)) (sym (ms ++ [5]))).and ((same21 (sym ms) (fit _ (by omega)) (sym zs)).and ((plain18 (sym ms) (sym_small (by omega))).and ((plain18 (sym (ms ++ [5])) (sym_small (by simp; omega))).and ((same21 (sym []) (fit _ (by simp)) (sym [])).and (is22 (sym (ms ++ [5])) [97])))))
      rw [sym_same, sym_same, sym_same, pl, pl] at c
      have e1 : decide (ms = ms ++ [5]) = false := by
        rw [decide_eq_false]
        intro h
        have := congrArg List.length h
        simp at this
      rw [e1] at c
      exact c
    by_cases hne : ms = []
    · subst hne
      refine Ret.of rfl (code10 _ _) rfl rfl hargs ?_
      refine (known11.and (facts [] rfl)).mono fun n hn H => ?_
      obtain ⟨e11, f1, f2, f3, f4, f5, f6⟩ := hn
      simp only [sym, D.v_mk, List.nil_append] at f1 f2 f3 f4 f5 f6
      simp only [vData_nil, vInts_nil, show vInts [5] = .lst 1 1 false [.int .i64 5] from rfl] at f1 f2 f3 f4 f5 f6
      have tk0 : ∀ G : Heap, taken 1 G (vIntsF false []) = some (0, []) := tk
      have a0 : ∀ G : Heap, appendOf 3 1 8 G (.lst 0 0 true []) (0, []) = some (.lst 0 0 true [], G) := fun G => by simp [appendOf]
      have a1 : ∀ G : Heap, appendOf 3 1 8 G (.lst 0 0 true []) (1, [.int .i64 5]) = some (.slice (.new G.n) 0 1 (.gro 1), G.push (.row [.int .i64 5] 1 false (some 3))) := fun G => app_new (by decide) rfl (by decide)
      have sh : ∀ d G fz, G.t.get 4 = some (.row [.int .i64 5] 1 fz (some 3)) → shutC (d + 1) (.slice (.new 4) 0 1 (.gro 1)) G = some (.lst 1 1 false [.int .i64 5], G.put 4 (.row [.int .i64 5] 1 true (some 3))) := fun d G fz h => shut_ints (ms := [5]) (by simp) h rfl
      have h30' : ¬ ((0 : Nat) : Int) > 30 := by omega
      have h1 : ¬ ((0 : Nat) : Int) > 1 := by omega
      simp -implicitDefEqProofs only [c10, ↓v_lenS, SB, POp.val, AOp.val, WOp.val, Lite.bin, intBin, strBin, eqv, eqMany, eq1, AV.asBool, AV.asInt, AV.asNat, AV.asPtr, AV.asStr, resVals, ResV.val, oneOr, wants, skipped, fillAt, putAt, capOf, optNat, bnd, Nat.reduceBEq, reduceIte, Nat.reduceAdd, Nat.reduceLeDiff, Nat.reduceEqDiff, Nat.reduceSub, Nat.reduceMul, Nat.reduceDiv, SOper.again, same, sameBlk, sameCap, Nat.reduceBneDiff, CL, e11, len_vIntsF, h30', tk0, a0, a1, h1, f1, f2, f3, f4, f5, f6, Ends, gives_ret, shutC, shutRow, Cap.es]
      exact ⟨_, rfl⟩
    · have hpos : 0 < ms.length := List.length_pos_iff.2 hne
      have a1 : ∀ G : Heap, appendOf 3 1 8 G (.lst 0 0 true []) (ms.length, ms.flatMap int1) = some (.slice (.new G.n) 0 ms.length (.gro 1), G.push (.row (ms.flatMap int1) 1 false (some 3))) := fun G => app_new (by omega) (ints_flat ms) (by omega)
      have a2 : ∀ (G : Heap) (j : Nat), G.t.get j = some (.row (ms.flatMap int1) 1 false (some 3)) → appendOf 3 1 8 G (.slice (.new j) 0 ms.length (.gro 1)) (1, [.int .i64 5]) = some (.slice (.new G.n) 0 (ms.length + 1) (.gro 1), (G.del j).push (.row (ms.flatMap int1 ++ [.int .i64 5]) 1 false (some 3))) := fun G j h => app_grow h (ints_len ms) rfl (by omega)
      have e5 : ms.flatMap int1 ++ [.int .i64 5] = (ms ++ [5]).flatMap int1 := by simp [int1]
      have sh : ∀ (zs : List Int), zs.length = ms.length → ∀ (d j : Nat) (G : Heap) (fz : Bool), G.t.get j = some (.row (zs.flatMap int1) 1 fz (some 3)) → shutC (d + 1) (.slice (.new j) 0 ms.length (.gro 1)) G = some (vInts zs, G.put j (.row (zs.flatMap int1) 1 true (some 3))) := fun zs hz d j G fz h => shut_ints (by intro h0; rw [h0, List.length_nil] at hz; omega) h hz.symm
      have sh5 : ∀ (d j : Nat) (G : Heap) (fz : Bool), G.t.get j = some (.row ((ms ++ [5]).flatMap int1) 1 fz (some 3)) → shutC (d + 1) (.slice (.new j) 0 (ms.length + 1) (.gro 1)) G = some (vInts (ms ++ [5]), G.put j (.row ((ms ++ [5]).flatMap int1) 1 true (some 3))) := fun d j G fz h => shut_ints (by simp) h (by simp)
      have shf := fun d j G => sh ms rfl d j G false
      have sht := fun d j G => sh ms rfl d j G true
      have sh5f := fun d j G => sh5 d j G false
      have sh5t := fun d j G => sh5 d j G true
      by_cases h1 : (ms.length : Int) > 1
      · have hw0 : IntKind.i64.wrap ((ms.length : Int) - 1) = (ms.length : Int) - 1 := wrap64 (by omega) (by omega)
        obtain ⟨r0, r1⟩ := within_range q ((ms.length : Int) - 1) (by omega) (by omega)
        have e20 := run20 q ((ms.length : Int) - 1) (by omega)
        generalize within q ((ms.length : Int) - 1) = iz at *
        obtain ⟨i, rfl⟩ : ∃ i : Nat, iz = i := ⟨iz.toNat, by omega⟩
        have hi : i < ms.length := by omega
        have hi1 : i + 1 < ms.length := by omega
        obtain ⟨x, hx⟩ : ∃ x, ms[i]? = some x := ⟨ms[i], List.getElem?_eq_getElem hi⟩
        obtain ⟨y, hy⟩ : ∃ y, ms[i + 1]? = some y := ⟨ms[i + 1], List.getElem?_eq_getElem hi1⟩
        have hw1 : IntKind.i64.wrap ((i : Int) + 1) = ((i + 1 : Nat) : Int) := wrap_succ hi (by omega)
        have hxc : (ms.flatMap int1)[i]? = some (.int .i64 x) := by rw [ints_get, hx]; rfl
        have hyc : (ms.flatMap int1)[i + 1]? = some (.int .i64 y) := by rw [ints_get, hy]; rfl
        have p1 : (ms.flatMap int1).take i ++ [AV.int .i64 y] ++ (ms.flatMap int1).drop (i + 1) = (ms.set i y).flatMap int1 := ints_set ms i y hi
        have p2 : ((ms.set i y).flatMap int1).take (i + 1) ++ [AV.int .i64 x] ++ ((ms.set i y).flatMap int1).drop (i + 1 + 1) = ((ms.set i y).set (i + 1) x).flatMap int1 := ints_set _ (i + 1) x (by simp; omega)
        have l1 : (ms.flatMap int1).length = ms.length := ints_len ms
        have l2 : ((ms.set i y).flatMap int1).length = ms.length := by rw [ints_len]; simp
        have hsw := swap_eq hx hy
        have hz1 : (((ms.set i y).set (i + 1) x).flatMap int1)[i]? = some (.int .i64 y) := by rw [ints_get, List.getElem?_set_ne (by omega), List.getElem?_set_self hi]; rfl
        have hz2 : (((ms.set i y).set (i + 1) x).flatMap int1)[i + 1]? = some (.int .i64 x) := by rw [ints_get, List.getElem?_set_self (by simp; omega)]; rfl
        have hzl : ((ms.set i y).set (i + 1) x).length = ms.length := by simp
        generalize hzs : (ms.set i y).set (i + 1) x = zs at *
        have hi2 : i + 1 ≤ ms.length := by omega
        have hi3 : i + 1 + 1 ≤ ms.length := by omega
        have hneq : (decide (ms = zs) == !(y != x)) = true := by
          by_cases hxy : x = y
          · rw [decide_eq_true (hsw.2 hxy), hxy]; simp
          · rw [decide_eq_false (fun h => hxy (hsw.1 h))]
            have : (y != x) = true := by simpa using fun h => hxy h.symm
            rw [this]; rfl
        have shzf := fun d j G => sh zs hzl d j G false
        have shzt := fun d j G => sh zs hzl d j G true
        refine Ret.of rfl (code10 _ _) rfl rfl hargs ?_
        refine (known11.and (e20.and (facts zs hzl))).mono fun n hn H => ?_
        obtain ⟨e11, e20, f1, f2, f3, f4, f5, f6⟩ := hn
        simp only [sym, D.v_mk] at f1 f2 f3 f4 f5 f6
        simp only [vData_nil, vInts_nil] at f1 f2 f3 f4 f5 f6
        simp -implicitDefEqProofs only [c10, ↓v_lenS, SB, POp.val, AOp.val, WOp.val, Lite.bin, intBin, strBin, eqv, eqMany, eq1, AV.asBool, AV.asInt, AV.asNat, AV.asPtr, AV.asStr, resVals, ResV.val, oneOr, wants, skipped, fillAt, putAt, capOf, optNat, bnd, Nat.reduceBEq, reduceIte, Nat.reduceAdd, Nat.reduceLeDiff, Nat.reduceEqDiff, Nat.reduceSub, Nat.reduceMul, Nat.reduceDiv, SOper.again, same, sameBlk, sameCap, Nat.reduceBneDiff, CL, e11, len_vIntsF, h30, tk, a1, a2, e5, h1, shf, sht, shzf, shzt, sh5f, sh5t, Nat.mul_one, f1, f2, f3, f4, f5, f6, Ends, gives_ret, hw0, e20, hw1, hi, hi1, hxc, hyc, p1, p2, l1, l2, hz1, hz2, hi2, hi3, hneq]
        exact ⟨_, rfl⟩
      · refine Ret.of rfl (code10 _ _) rfl rfl hargs ?_
        refine (known11.and (facts ms rfl)).mono fun n hn H => ?_
        obtain ⟨e11, f1, f2, f3, f4, f5, f6⟩ := hn
        simp only [sym, D.v_mk] at f1 f2 f3 f4 f5 f6
        simp only [vData_nil, vInts_nil, decide_true] at f1 f2 f3 f4 f5 f6
        simp -implicitDefEqProofs only [c10, ↓v_lenS, SB, POp.val, AOp.val, WOp.val, Lite.bin, intBin, strBin, eqv, eqMany, eq1, AV.asBool, AV.asInt, AV.asNat, AV.asPtr, AV.asStr, resVals, ResV.val, oneOr, wants, skipped, fillAt, putAt, capOf, optNat, bnd, Nat.reduceBEq, reduceIte, Nat.reduceAdd, Nat.reduceLeDiff, Nat.reduceEqDiff, Nat.reduceSub, Nat.reduceMul, Nat.reduceDiv, SOper.again, same, sameBlk, sameCap, Nat.reduceBneDiff, CL, e11, len_vIntsF, h30, tk, a1, a2, e5, h1, shf, sht, sh5f, sh5t, f1, f2, f3, f4, f5, f6, Ends, gives_ret]
        exact ⟨_, rfl⟩

end Go.Lite
