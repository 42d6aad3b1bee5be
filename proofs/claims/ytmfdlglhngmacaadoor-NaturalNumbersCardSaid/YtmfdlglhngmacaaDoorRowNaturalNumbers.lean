/- The row of the law NaturalNumbers, and its card: what its call does, from the interpreter's run; what it lists, tied to the program's text. -/
import Derived.Test.YtmfdlglhngmacaaDoorWC
import Derived.Test.YtmfdlglhngmacaaDoorProg
import Derived.Test.YtmfdlglhngmacaaDoorWD
import Derived.Test.YtmfdlglhngmacaaDoorWO
import Derived.Test.YtmfdlglhngmacaaDoorWT
import Derived.Test.YtmfdlglhngmacaaDoorWS
import Derived.Test.YtmfdlglhngmacaaDoorTie
import Derived.Test.YtmfdlglhngmacaaDoorCards
import Derived.WalkKit
import Derived.ProofKit
import Derived.OpenShut
import Derived.ShutString
import Derived.ChangeOld
import Derived.Below
import Derived.SizedLaws
import Derived.HandedShaped
import Derived.Carry
import Derived.SevenTiedAt
/-
  The slimmed code of the functions, printed by program, and that it is what is computed from the program.
-/
namespace Go.Lite
open Go Go.Proofs
set_option maxRecDepth 100000
-- thunk/thunklaw10.NaturalNumbers
def c7_l0 : SCode :=
 (.seq (.seq (.ops [oM 30 10, oM 31 9, oE 32 31, oB 33 .lss 30 32])
 (.cond (.tmp 33)
 .skip
 (.exit 0)))
 (.seq (.block 1 (.seq (.draw [oM 36 9, oM 37 10, oP 38 (.iaddr 1 (.tmp 36) (.tmp 37)), oL 39 38, oN 40 4 7, oN 41 4 8, oA 42 (.buildS [.int .i64 0, .str [], .nils, .nils, .int .i64 0, .str [], .nils, .nils] 2 [(0, 4, .tmp 40), (4, 4, .tmp 41)]), oP 43 (.build [.int .i64 0, .str [], .nils, .nils] [(0, 1, .lit (.int .i64 10)), (1, 1, .tmp 39), (3, 1, .tmp 42)]), oA 11 (.newc 28 [.int .i64 0, .str [], .nils, .nils])] [(oS 4 11 43, [], [])])
 (.seq (.ops [oN 45 4 11, oC 46 14 ([.tmp 45, .lit .nils, .lit (.int .i64 100)]), oM 44 46, oP 47 (.extract (.tmp 44) 0), oP 48 (.extract (.tmp 44) 1), oP 49 (.extract (.tmp 44) 2), oA 12 (.newc 31 [.int .i64 0, .str [], .int .i64 0]), oS 3 12 47, oM 13 48, oM 14 49])
 (.seq (.ops [oN 51 4 11, oC 52 20 ([.tmp 51, .lit .nils, .lit (.int .i64 100)]), oM 50 52, oP 53 (.extract (.tmp 50) 0), oP 54 (.extract (.tmp 50) 1), oP 55 (.extract (.tmp 50) 2), oA 15 (.newc 31 [.int .i64 0, .str [], .int .i64 0]), oS 3 15 53, oM 16 54, oM 17 55])
 (.seq (.ops [oN 56 3 12, oN 57 3 15, oP 58 (.bin .neq (.many [(0, 1), (1, 2), (2, 1)]) (.tmp 56) (.tmp 57)), oM 59 58, oG 60 59 false (.move (.tmp 13)), oG 61 59 false (.bin .neq .none (.tmp 60) (.lit (.int .i64 3))), oP 62 (.pick (.tmp 59) (.lit (.bool true)) (.tmp 61))])
 (.cond (.tmp 62)
 (.seq (.ops [oP 6 (.move (.lit (.bool false)))])
 .ret)
 .skip))))))
 (.ops [oM 34 10, oJ 35 .add 34 1, oM 10 35])))
def c7 : SFunc := ⟨63, (.seq (.ops [oP 6 (.move (.lit (.bool false)))])
 (.seq (.seq (.ops [oC 18 11 ([]), oP 19 (.not (.tmp 18))])
 (.cond (.tmp 19)
 (.seq (.ops [oP 6 (.move (.lit (.bool false)))])
 .ret)
 .skip))
 (.seq (.ops [oM 20 0, oM 21 2, oC 22 19 ([.tmp 20, .lit (.int .i64 120), .tmp 21]), oP 23 (.build [.int .i64 0, .str [], .nils, .nils] [(0, 1, .lit (.int .i64 1)), (1, 1, .tmp 22)]), oM 24 1, oM 25 2, oP 26 (.not (.tmp 25)), oC 27 19 ([.tmp 24, .lit (.int .i64 120), .tmp 26]), oP 28 (.build [.int .i64 0, .str [], .nils, .nils] [(0, 1, .lit (.int .i64 1)), (1, 1, .tmp 27)]), oA 7 (.newc 28 [.int .i64 0, .str [], .nils, .nils]), oA 8 (.newc 28 [.int .i64 0, .str [], .nils, .nils]), oS 4 7 23, oS 4 8 28])
 (.seq (.ops [oA 29 (.buildS [.str [], .str [], .str [], .str [], .str [], .str [], .str []] 7 [(0, 1, .lit (.str [43])), (1, 1, .lit (.str [45])), (2, 1, .lit (.str [42])), (3, 1, .lit (.str [113, 117, 111, 116, 105, 101, 110, 116])), (4, 1, .lit (.str [114, 101, 109, 97, 105, 110, 100, 101, 114])), (5, 1, .lit (.str [60])), (6, 1, .lit (.str [61]))]), oM 9 29])
 (.seq (.seq (.ops [oI 10 0])
 (.block 0 (.loop c7_l0)))
 (.seq (.ops [oP 6 (.move (.lit (.bool true)))])
 .ret)))))), [.tmp 6]⟩
theorem code7 (own : OwnT) (mode : FuncId → Nat) : (slimPrg Tryd.prog own mode).code 7 = some c7 := by kernel_rfl
end Go.Lite
/-
  The law NaturalNumbers.
-/
namespace Go.Lite
open Go Go.Proofs
set_option maxRecDepth 100000
set_option linter.unusedSimpArgs false
set_option linter.unusedVariables false
def opsN : List Str := [[43], [45], [42], [113, 117, 111, 116, 105, 101, 110, 116], [114, 101, 109, 97, 105, 110, 100, 101, 114], [60], [61]]
theorem opsN_not {s : Str} (h : s ∈ opsN) : ¬ s = consP ∧ ¬ s = seqT ∧ ¬ s = eqP ∧ s.length ≤ 1000 ∧ ∀ c ∈ s, c < 256 := by
 have key : ∀ s ∈ opsN, ¬ s = consP ∧ ¬ s = seqT ∧ ¬ s = eqP ∧ s.length ≤ 1000 ∧ ∀ c ∈ s, c < 256 := by decide
 exact key s h
def numX (z : Int) : X := .mk 1 (decZ z) [] []
def opX (s : Str) (x y : Int) : X := .mk 10 s [] [numX x, numX y]
theorem nums_form (op a b : Str) (s : S) : (∃ k t, numsA op a b s = .val (.atom k t) s) ∨ ∃ k t, numsA op a b s = .stop k t s := by
 unfold numsA numA truthV
 simp only []
 repeat' split
 all_goals first
  | exact .inl ⟨_, _, rfl⟩
  | exact .inr ⟨_, _, rfl⟩
theorem op_out {s : Str} (h : s ∈ opsN) (x y : Int) : ∃ o, outA 6 (opX s x y) [] 100 = some o ∧ o.st.steps = 3 := by
 obtain ⟨h1, h2, h3, _⟩ := opsN_not h
 unfold outA
 rcases nums_form s (decZ x) (decZ y) ⟨[.done (.atom 3 emptyT)], 3, 0⟩ with ⟨k, t, e⟩ | ⟨k, t, e⟩
 · refine ⟨sayA [] t ⟨[.done (.atom 3 emptyT)], 3, 0⟩, ?_, by rw [say_st]⟩
   simp [opX, numX, evalA_s, evalF, prim2F, S.tick, constV, O.bind, inputA, S.new, h1, h2, h3, V.kind, V.text, e, printA_s]
 · refine ⟨.stop k t ⟨[.done (.atom 3 emptyT)], 3, 0⟩, ?_, rfl⟩
   simp [opX, numX, evalA_s, evalF, prim2F, S.tick, constV, O.bind, inputA, S.new, h1, h2, h3, V.kind, V.text, e]
theorem op_tame {s : Str} (h : s ∈ opsN) {x y : Int} (hx : x.natAbs < 10 ^ 200) (hy : y.natAbs < 10 ^ 200) : (opX s x y).tame := by
 obtain ⟨_, _, _, h5, h6⟩ := opsN_not h
 have key : ∀ z : Int, z.natAbs < 10 ^ 200 → (numX z).tame := fun z hz => ⟨⟨⟨by have := decZ_len hz (by omega); omega, decZ_byte z⟩, fun _ => ⟨z, hz, rfl⟩⟩, by simp, by simp, trivial⟩
 exact ⟨⟨⟨h5, h6⟩, fun h => absurd h (by decide)⟩, by simp, by simp, key x hx, key y hy, trivial⟩
theorem op_room {s : Str} (h : s ∈ opsN) {x y : Int} (hx : x.natAbs < 10 ^ 200) (hy : y.natAbs < 10 ^ 200) : Room (opX s x y) [(inputT, 0)] := by
 refine ⟨op_tame h hx hy, ?_, ?_⟩
 · simp [opX, numX, X.nn, X.nns]
 · refine ⟨fun _ h => by simp at h, ⟨fun h => absurd h (by decide), trivial⟩, ⟨fun h => absurd h (by decide), trivial⟩, trivial⟩
set_option maxHeartbeats 16000000 in
theorem law7 (f g : Bool) (ks ms : List Int) (low : Bool) (hks : ks.length ≤ 9223372036854775807) (hms : ms.length ≤ 9223372036854775807) : Ret P6 7 [vI f ks, vI g ms, .bool low] (.bool true) := by
 have n1 := (num14 f ks 120 low hks (by omega)).up
 have n2 := (num14 g ms 120 (!low) hms (by omega)).up
 have hx : (numZ ks 120 low).natAbs < 10 ^ 200 := Nat.lt_of_lt_of_le (numZ_lt ks 120 low) (Nat.pow_le_pow_right (by decide) (by decide))
 have hy : (numZ ms 120 (!low)).natAbs < 10 ^ 200 := Nat.lt_of_lt_of_le (numZ_lt ms 120 (!low)) (Nat.pow_le_pow_right (by decide) (by decide))
 generalize numZ ks 120 low = x at n1 hx
 generalize numZ ms 120 (!low) = y at n2 hy
 have hE : ∀ s ∈ opsN, Ev fun n => ∃ o : O Str, o.st.steps = 3 ∧ (∀ H, evalV (opX s x y).v 100 H = some (.ret (.tuple [.agg [.int .i64 o.kind, .str o.txt, .int .i64 0], .int .i64 o.st.steps, .int .i64 o.st.uses]), H)) ∧ ∀ H, callN P6 n 20 [(opX s x y).v, vStrs [], .int .i64 100] H = some (.ret (.tuple [.agg [.int .i64 o.kind, .str o.txt, .int .i64 0], .int .i64 o.st.steps, .int .i64 o.st.uses]), H) := fun s hs => by
  obtain ⟨o, ho, h3⟩ := op_out hs x y
  refine ((eval20 (opX s x y) (op_room hs hx hy) 100 (by omega) [] (fun t h => by cases h) (by simp) ho).up).mono fun n hn => ⟨o, h3, fun H => ?_, hn⟩
  exact eval_told (op_tame hs hx hy) 100 100 rfl (by omega) ho H
 refine Ret.of rfl (code7 _ _) rfl rfl (fun H => by simp -implicitDefEqProofs only [ZZ, shutV_vI]) (known11.and (n1.and (n2.and ((Ev.list opsN hE).and (Ev.ge 10)))) |>.mono fun n hn H => ?_)
 obtain ⟨e11, n1, n2, eV, hn⟩ := hn
 obtain ⟨n, rfl⟩ : ∃ k, n = k + 1 := ⟨n - 1, by omega⟩
 have hc120 : ((120 : Nat) : Int) = 120 := rfl
 rw [hc120] at n1 n2
 simp -implicitDefEqProofs only [c7, ZZ, Nat.reduceBEq, reduceIte, Nat.reduceAdd, Nat.reduceLeDiff, Nat.reduceEqDiff, CM, shutV_vI, e11, n1, n2]
 refine loop_rounds 7 (fun i fr H => HLow H ∧ 2 ≤ H.n ∧ H.t.get 0 = some (.row [.int .i64 1, .str (decZ x), .nils, .nils] 0 false (some 28)) ∧ H.t.get 1 = some (.row [.int .i64 1, .str (decZ y), .nils, .nils] 0 false (some 28)) ∧ fr 7 = .ptr (.new 0) 0 ∧ fr 8 = .ptr (.new 1) 0 ∧ fr 9 = .lst 1 7 true [.str [43], .str [45], .str [42], .str [113, 117, 111, 116, 105, 101, 110, 116], .str [114, 101, 109, 97, 105, 110, 100, 101, 114], .str [60], .str [61]] ∧ fr 10 = .int .i64 i) ?_ ?_ _ 0 _ _ (by omega) (by omega) ?_
 · rintro i fr H K' hi ⟨lo, h2, g0, g1, r7, r8, r9, r10⟩ hKe hKr hK
   obtain ⟨s, hs⟩ : ∃ s, opsN[i]? = some s := ⟨opsN[i]'(by simpa [opsN] using hi), List.getElem?_eq_getElem _⟩
   have hdrop : (([AV.str [43], .str [45], .str [42], .str [113, 117, 111, 116, 105, 101, 110, 116], .str [114, 101, 109, 97, 105, 110, 100, 101, 114], .str [60], .str [61]] : List AV).drop (i * 1)).take 1 = [.str s] := by
    match i, hi, hs with
    | 0, _, hs => cases hs; rfl
    | 1, _, hs => cases hs; rfl
    | 2, _, hs => cases hs; rfl
    | 3, _, hs => cases hs; rfl
    | 4, _, hs => cases hs; rfl
    | 5, _, hs => cases hs; rfl
    | 6, _, hs => cases hs; rfl
   obtain ⟨o, h3, eA, eB⟩ := eV i s hs
   simp only [opX, numX, X.v_mk, vXs, vList_cons, vList_nil, List.flatMap_cons, List.flatMap_nil, List.length_cons, List.length_nil, X.cells_mk, List.cons_append, List.nil_append, List.append_nil, vStrs, Nat.reduceAdd, h3] at eA eB
   have hlt : (i : Int) < 7 := by omega
   have hlt' : (i : Int) < ((7 : Nat) : Int) := by omega
   have hw : IntKind.i64.wrap ((i : Int) + 1) = ((i + 1 : Nat) : Int) := wrap_succ (n := 1000) (by omega) (by omega)
   have m0 : ¬ 0 = H.n := by omega
   have m1 : ¬ 1 = H.n := by omega
   have h33 : (((3 : Nat) : Int) != 3) = false := rfl
   simp -implicitDefEqProofs only [c7_l0, ↓v_lenS, ZZ, Nat.reduceBEq, reduceIte, Nat.reduceAdd, Nat.reduceLeDiff, Nat.reduceEqDiff, CM, r7, r8, r9, r10, hi, hlt', hdrop, g0, g1, call14s, eA, eB, h33, hw]
   refine hK _ _ ⟨?_, ?_, ?_, ?_, ?_, ?_, ?_, ?_⟩
   · repeat' (first | exact lo | refine HLow.push ?_ | refine HLow.put ?_ (by simp only [h_nput, h_n]; omega))
   · simp only [h_nput, h_n]; omega
   · simp only [h_gput, h_get, h_nput, h_n]
     repeat rw [if_neg (by omega)]
     exact g0
   · simp only [h_gput, h_get, h_nput, h_n]
     repeat rw [if_neg (by omega)]
     exact g1
   all_goals simp -implicitDefEqProofs only [ZZ, Nat.reduceBEq, r7, r8, r9]
 · rintro fr H K' ⟨lo, h2, g0, g1, r7, r8, r9, r10⟩ hKe hKr
   have hlt' : ¬ ((7 : Nat) : Int) < ((7 : Nat) : Int) := by omega
   simp -implicitDefEqProofs only [c7_l0, ↓v_lenS, ZZ, Nat.reduceBEq, reduceIte, r9, r10, hlt', hKe, gives_ret]
   exact ⟨_, rfl⟩
 · refine ⟨?_, ?_, ?_, ?_, ?_, ?_, ?_, ?_⟩
   · repeat' (first | exact HLow.bare | refine HLow.push ?_ | refine HLow.put ?_ (by simp only [h_nput, h_n, h_nbare]; omega))
   · simp only [h_nput, h_n, h_nbare]; omega
   · simp -implicitDefEqProofs only [ZZ, reduceIte, Nat.reduceAdd, Nat.reduceEqDiff]
   · simp -implicitDefEqProofs only [ZZ, reduceIte, Nat.reduceAdd, Nat.reduceEqDiff]
   all_goals simp -implicitDefEqProofs only [ZZ, Nat.reduceBEq]
   rfl
end Go.Lite
/- The row of the law NaturalNumbers, and its card: what its call does, from the interpreter's run; what it lists, tied to the program's text. -/
namespace Go.Proofs.YtmfdlglhngmacaaDoor.naturalNumbers
open Go.ChangeShapes Go.WideShapes Go.ChangeAt Go.RowKit Go.Lite
open Go.ChangeMaps (open_string shut_string)
set_option linter.unusedVariables false
set_option maxRecDepth 100000
theorem own : ownKnob Tryd.prog.godebug = none := by kernel_rfl
theorem laidOut : laidOutB Tryd.prog = true := by kernel_rfl
theorem laid_met (os : Os) : laidMet Tryd.prog Rows.naturalNumbersRow.laid ((laidWorld Tryd.prog os [(2, Rows.laid_math_bits_deBruijn32tab), (3, Rows.laid_math_bits_deBruijn64tab), (0, Rows.laid_internal_strconv_uint64pow10)]).forCall (fun _ _ => 0) ⟨#[], #[.slice none 0 0, .slice none 0 0, .bool false], []⟩).memory :=
 laidMet_of_run' 8 (by kernel_rfl) (by kernel_rfl)
theorem lifted (os : Os) (started : os.Started) (H : Type) (enc : TypeId × Value → H) :
 ReturnsInHanded {} Tryd.checked os 7 .any (fun w args => (Rows.naturalNumbersSpec.pre enc Tryd.prog Tryd.f7 Rows.naturalNumbersRow.domain false w args ∧ laidMet Tryd.prog Rows.naturalNumbersRow.laid w) ∧ sizedMet enc Tryd.prog Tryd.f7 (OpenSpec.ofChange Rows.naturalNumbersSpec) false w args) (Rows.naturalNumbersSpec.post enc Tryd.prog Tryd.f7 false true false false) := by
 refine returns_laid (C := Tryd.checked) (X := fun w _ => laidMet Tryd.prog Rows.naturalNumbersRow.laid w) own started (by kernel_rfl) Tryd.func7
  (ChangeSpec.witness_at (enc := enc) (C := Tryd.checked) (os := os) (X := fun w _ => laidMet Tryd.prog Rows.naturalNumbersRow.laid w) false (laidWorld Tryd.prog os [(2, Rows.laid_math_bits_deBruijn32tab), (3, Rows.laid_math_bits_deBruijn64tab), (0, Rows.laid_internal_strconv_uint64pow10)]) #[.slice none 0 0, .slice none 0 0, .bool false] 8 rfl (by kernel_rfl) (by kernel_rfl) (by kernel_rfl) (by kernel_rfl) (by kernel_rfl) (laid_met os)) ?_
 intro W base args ds gs before hval0 hW hcnd hsz0 hsh hlx _
 have hsz : (DataW.weightsEach Tryd.prog (Tryd.f7.params.toList ++ Rows.naturalNumbersSpec.plain.varTypes Tryd.prog) (ds ++ gs)).all (· ≤ reachBytes) = true := hsz0
 have hval : ∀ (j : Nat) t v, Tryd.f7.params[j]? = some t → args[j]? = some v → Value.okWide Tryd.prog W .any base t v := hval0
 have hW' := hW
 obtain ⟨p, q, hA0, hV, rfl, hfz, hnd⟩ := hW
 have hA : DataW.TrodAll enc Tryd.prog W 0 (fun _ => true) true Tryd.f7.params.toList args.toList ds p := hA0
 rw [Tryd.params7] at hA hval hsz
 obtain ⟨v0, vs0, d0, ds0, p0, q0, hargs, rfl, rfl, h0, r0⟩ := trodAll_cons hA
 obtain ⟨v1, vs1, d1, ds1, p1, q1, rfl, rfl, rfl, h1, r1⟩ := trodAll_cons r0
 obtain ⟨v2, vs2, d2, ds2, p2, q2, rfl, rfl, rfl, h2, r2⟩ := trodAll_cons r1
 obtain ⟨rfl, rfl, rfl⟩ := trodAll_nil r2
 obtain rfl : args = #[v0, v1, v2] := by cases args; simp_all
 obtain ⟨rfl, rfl⟩ := trodVars_none hV
 have k0 := h0
 have lt0 : ∀ x ∈ p0, x.block < W.heap.size := by obtain ⟨m, hm⟩ := k0; exact DataW.trod_lt m _ _ _ hm
 have o0 := (hval 0 41 v0 rfl rfl)
 obtain ⟨z0, n0, c0, rfl⟩ := okWide_slice Tryd.underlying41 o0
 obtain ⟨g0, y0⟩ := h0
 obtain ⟨a0, w0, e0⟩ := open_ints Tryd.underlying41 Tryd.underlying3 (by kernel_rfl) (u := .slice z0 n0 c0) (by simpa [Value.cells] using y0)
 have k1 := h1
 have lt1 : ∀ x ∈ p1, x.block < W.heap.size := by obtain ⟨m, hm⟩ := k1; exact DataW.trod_lt m _ _ _ hm
 have o1 := (hval 1 41 v1 rfl rfl)
 obtain ⟨z1, n1, c1, rfl⟩ := okWide_slice Tryd.underlying41 o1
 obtain ⟨g1, y1⟩ := h1
 obtain ⟨a1, w1, e1⟩ := open_ints Tryd.underlying41 Tryd.underlying3 (by kernel_rfl) (u := .slice z1 n1 c1) (by simpa [Value.cells] using y1)
 obtain ⟨a2, rfl, rfl, rfl⟩ := open_bool Tryd.underlying4 (hval 2 4 v2 rfl rfl) h2
 refine (calls_of_ret hsh (tab_of_laid hlx) (law7 _ _ a0 a1 a2 w0 w1) (by simp only [VRels]; exact ⟨_, _, rfl, e0, _, _, rfl, e1, _, _, rfl, rfl, rfl⟩)).mono fun e W' ⟨he, bel⟩ => ?_
 subst he
 exact ⟨_, rfl, _, _, _, [], _, [], hW', trodAll_mk1 (shut_bool Tryd.underlying4 _), (trodAll_cons_mk (Below.trod laidOut (by kernel_rfl) (of_decide_eq_true (by kernel_rfl)) k0 bel lt0) (trodAll_cons_mk (Below.trod laidOut (by kernel_rfl) (of_decide_eq_true (by kernel_rfl)) k1 bel lt1) (trodAll_cons_mk (shut_bool Tryd.underlying4 _) trodAll_mk0))), rfl, bel.frame _, fun h => by cases h⟩
theorem over : Rows.naturalNumbersRow.holds Tryd.pinned (OpenSpec.ofChange Rows.naturalNumbersSpec) :=
 OpenClaim.holds_of_wide 7 Tryd.f7 rfl rfl rfl rfl rfl rfl rfl ⟨rfl, rfl, rfl, rfl, rfl⟩ rfl rfl rfl rfl rfl (by kernel_rfl) Tryd.func7 (by kernel_rfl)
  (of_decide_eq_true (by kernel_rfl)) (by unfold Func.isWrapper; first | (rw [if_pos (by decide +kernel)]; kernel_rfl) | (rw [if_neg (by decide +kernel)]; exact ⟨rfl, rfl⟩))
  (fun os started H enc _ => lifted os started H enc)
theorem card : Rows.NaturalNumbersCardSaid :=
 Claim7.holds_tied_plain_at .later [] [.data, .data, .data] true (true, "06472ccc2e734025fb51c4dbe6afee2256fcaf741367e7b75c75ff11b22c96a1") true over (fun _ h => by cases h) (by kernel_rfl) (fun _ h => by cases h) naturalNumbers_row_tie rfl ⟨rfl, rfl⟩ (by kernel_rfl) (by first | rfl | decide)
  (fun f fn h1 h2 => by
    obtain rfl : f = 7 := Option.some.inj (h1.symm.trans (by kernel_rfl))
    obtain rfl : fn = Tryd.f7 := Option.some.inj (h2.symm.trans Tryd.func7)
    refine ⟨by kernel_rfl, fun j t hj => ?_⟩
    rw [Tryd.params7] at hj
    match j, hj with
    | 0, hj =>
      obtain rfl : t = 41 := by simpa using hj.symm
      exact (by kernel_rfl : Tryd.pinned.checked.prog.wantsStandIn 41 = false)
    | 1, hj =>
      obtain rfl : t = 41 := by simpa using hj.symm
      exact (by kernel_rfl : Tryd.pinned.checked.prog.wantsStandIn 41 = false)
    | 2, hj =>
      obtain rfl : t = 4 := by simpa using hj.symm
      exact (by kernel_rfl : Tryd.pinned.checked.prog.wantsStandIn 4 = false)
    | j + 3, hj => simp at hj)
  (by kernel_rfl)
#print axioms card
end Go.Proofs.YtmfdlglhngmacaaDoor.naturalNumbers
namespace Go.Proofs.YtmfdlglhngmacaaDoor
/-- The card, under a short name, for the claim. -/
theorem naturalNumbers_holds : Rows.NaturalNumbersCardSaid := naturalNumbers.card
end Go.Proofs.YtmfdlglhngmacaaDoor
