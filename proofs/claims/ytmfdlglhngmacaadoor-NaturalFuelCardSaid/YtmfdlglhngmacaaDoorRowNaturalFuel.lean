/- The row of the law NaturalFuel, and its card: what its call does, from the interpreter's run; what it lists, tied to the program's text. -/
import Derived.Test.YtmfdlglhngmacaaDoorQC
import Derived.Test.YtmfdlglhngmacaaDoorProg
import Derived.Test.YtmfdlglhngmacaaDoorQD
import Derived.Test.YtmfdlglhngmacaaDoorQO
import Derived.Test.YtmfdlglhngmacaaDoorTie
import Derived.Test.YtmfdlglhngmacaaDoorCards
import Derived.WalkKit
import Derived.ProofKit
import Derived.OpenShut
import Derived.ShutString
import Derived.ChangeOld
import Derived.Below
import Derived.SizedLaws
import Derived.HandedShaped
import Derived.Carry
import Derived.SevenTiedAt

/-
  The slimmed code of the functions, printed by program, and that it is what is computed from the program.
-/
namespace Go.Lite
open Go Go.Proofs
set_option maxRecDepth 100000
-- thunk/thunklaw10.NaturalFuel
def c3 : SFunc := ⟨104, (.seq (.ops [.mk (some 6) none (.p (.move (.lit (.bool false))))])
  (.seq (.seq (.ops [.mk (some 21) none (.call (.lit (.func 11 [])) []), .mk (some 22) none (.p (.not (.tmp 21)))])
  (.cond (.tmp 22)
  (.seq (.ops [.mk (some 6) none (.p (.move (.lit (.bool false))))])
  .ret)
  .skip))
  (.seq (.seq (.ops [.mk (some 23) none (.p (.move (.tmp 0))), .mk (some 24) none (.call (.lit (.func 12 [])) [.tmp 23]), .mk (some 25) none (.p (.not (.tmp 24)))])
  (.cond (.tmp 25)
  (.seq (.ops [.mk (some 6) none (.p (.move (.lit (.bool true))))])
  .ret)
  .skip))
  (.seq (.ops [.mk (some 26) none (.p (.move (.tmp 0))), .mk (some 27) none (.call (.lit (.func 13 [])) [.tmp 26]), .mk (some 7) none (.a (.newc 28 [.int IntKind.i64 0, .str [], .nils, .nils])), .mk none none (.w (.store 4 (.tmp 7) (.tmp 27)))])
  (.seq (.ops [.mk (some 29) none (.p (.loadn 4 (.tmp 7))), .mk (some 30) none (.call (.lit (.func 14 [])) [.tmp 29, .lit .nils, .lit (.int IntKind.i64 2000)]), .mk (some 28) none (.p (.move (.tmp 30))), .mk (some 31) none (.p (.extract (.tmp 28) 0)), .mk (some 32) none (.p (.extract (.tmp 28) 1)), .mk (some 33) none (.p (.extract (.tmp 28) 2)), .mk (some 8) none (.a (.newc 31 [.int IntKind.i64 0, .str [], .int IntKind.i64 0])), .mk none none (.w (.store 3 (.tmp 8) (.tmp 31))), .mk (some 9) none (.p (.move (.tmp 32))), .mk (some 10) none (.p (.move (.tmp 33)))])
  (.seq (.seq (.ops [.mk (some 34) none (.p (.faddr 0 (.tmp 8))), .mk (some 35) none (.p (.load1 (.tmp 34))), .mk (some 36) none (.p (.bin .eql .none (.tmp 35) (.lit (.int IntKind.i64 6))))])
  (.cond (.tmp 36)
  (.seq (.ops [.mk (some 37) none (.p (.move (.tmp 9))), .mk (some 38) none (.p (.bin .eql .none (.tmp 37) (.lit (.int IntKind.i64 2001)))), .mk (some 6) none (.p (.move (.tmp 38)))])
  .ret)
  .skip))
  (.seq (.draw [.mk (some 40) none (.p (.loadn 4 (.tmp 7))), .mk (some 41) none (.p (.move (.tmp 2))), .mk (some 11) none (.a (.newc 31 [.int IntKind.i64 0, .str [], .int IntKind.i64 0]))] [(.mk (some 42) none (.call (.lit (.func 15 [])) [.tmp 41, .lit (.int IntKind.i64 1000)]), [.mk (some 40) none (.p (.loadn 4 (.tmp 7)))], [.mk (some 43) none (.p (.bin .add .none (.lit (.int IntKind.i64 2000)) (.tmp 42)))]), (.mk (some 44) none (.call (.lit (.func 14 [])) [.tmp 40, .lit .nils, .tmp 43]), [], [.mk (some 39) none (.p (.move (.tmp 44))), .mk (some 45) none (.p (.extract (.tmp 39) 0)), .mk (some 46) none (.p (.extract (.tmp 39) 1)), .mk (some 47) none (.p (.extract (.tmp 39) 2))]), (.mk none none (.w (.store 3 (.tmp 11) (.tmp 45))), [], [.mk (some 12) none (.p (.move (.tmp 46))), .mk (some 13) none (.p (.move (.tmp 47)))])])
  (.seq (.ops [.mk (some 49) none (.p (.loadn 4 (.tmp 7))), .mk (some 50) none (.p (.move (.tmp 9))), .mk (some 51) none (.call (.lit (.func 14 [])) [.tmp 49, .lit .nils, .tmp 50]), .mk (some 48) none (.p (.move (.tmp 51))), .mk (some 52) none (.p (.extract (.tmp 48) 0)), .mk (some 53) none (.p (.extract (.tmp 48) 1)), .mk (some 54) none (.p (.extract (.tmp 48) 2)), .mk (some 14) none (.a (.newc 31 [.int IntKind.i64 0, .str [], .int IntKind.i64 0])), .mk none none (.w (.store 3 (.tmp 14) (.tmp 52))), .mk (some 15) none (.p (.move (.tmp 53))), .mk (some 16) none (.p (.move (.tmp 54)))])
  (.seq (.ops [.mk (some 55) none (.p (.move (.tmp 1))), .mk (some 56) none (.p (.move (.tmp 9))), .mk (some 57) none (.call (.lit (.func 15 [])) [.tmp 55, .tmp 56]), .mk (some 17) none (.p (.move (.tmp 57)))])
  (.seq (.ops [.mk (some 59) none (.p (.loadn 4 (.tmp 7))), .mk (some 60) none (.p (.move (.tmp 17))), .mk (some 61) none (.call (.lit (.func 14 [])) [.tmp 59, .lit .nils, .tmp 60]), .mk (some 58) none (.p (.move (.tmp 61))), .mk (some 62) none (.p (.extract (.tmp 58) 0)), .mk (some 63) none (.p (.extract (.tmp 58) 1)), .mk (some 64) none (.p (.extract (.tmp 58) 2)), .mk (some 18) none (.a (.newc 31 [.int IntKind.i64 0, .str [], .int IntKind.i64 0])), .mk none none (.w (.store 3 (.tmp 18) (.tmp 62))), .mk (some 19) none (.p (.move (.tmp 63))), .mk (some 20) none (.p (.move (.tmp 64)))])
  (.seq (.ops [.mk (some 65) none (.p (.loadn 3 (.tmp 8))), .mk (some 66) none (.p (.loadn 3 (.tmp 11))), .mk (some 67) none (.p (.bin .eql (.many [(0, 1), (1, 2), (2, 1)]) (.tmp 65) (.tmp 66))), .mk (some 68) none (.p (.move (.tmp 67))), .mk (some 69) (some (68, true)) (.p (.move (.tmp 9))), .mk (some 70) (some (68, true)) (.p (.move (.tmp 12))), .mk (some 71) (some (68, true)) (.p (.bin .eql .none (.tmp 69) (.tmp 70))), .mk (some 72) none (.p (.pick (.tmp 68) (.tmp 71) (.lit (.bool false)))), .mk (some 73) none (.p (.move (.tmp 72))), .mk (some 74) (some (73, true)) (.p (.move (.tmp 10))), .mk (some 75) (some (73, true)) (.p (.move (.tmp 13))), .mk (some 76) (some (73, true)) (.p (.bin .eql .none (.tmp 74) (.tmp 75))), .mk (some 77) none (.p (.pick (.tmp 73) (.tmp 76) (.lit (.bool false)))), .mk (some 78) none (.p (.move (.tmp 77))), .mk (some 79) (some (78, true)) (.p (.loadn 3 (.tmp 8))), .mk (some 80) (some (78, true)) (.p (.loadn 3 (.tmp 14))), .mk (some 81) (some (78, true)) (.p (.bin .eql (.many [(0, 1), (1, 2), (2, 1)]) (.tmp 79) (.tmp 80))), .mk (some 82) none (.p (.pick (.tmp 78) (.tmp 81) (.lit (.bool false)))), .mk (some 83) none (.p (.move (.tmp 82))), .mk (some 84) (some (83, true)) (.p (.move (.tmp 9))), .mk (some 85) (some (83, true)) (.p (.move (.tmp 15))), .mk (some 86) (some (83, true)) (.p (.bin .eql .none (.tmp 84) (.tmp 85))), .mk (some 87) none (.p (.pick (.tmp 83) (.tmp 86) (.lit (.bool false)))), .mk (some 88) none (.p (.move (.tmp 87))), .mk (some 89) (some (88, true)) (.p (.move (.tmp 10))), .mk (some 90) (some (88, true)) (.p (.move (.tmp 16))), .mk (some 91) (some (88, true)) (.p (.bin .eql .none (.tmp 89) (.tmp 90))), .mk (some 92) none (.p (.pick (.tmp 88) (.tmp 91) (.lit (.bool false)))), .mk (some 93) none (.p (.move (.tmp 92))), .mk (some 94) (some (93, true)) (.p (.faddr 0 (.tmp 18))), .mk (some 95) (some (93, true)) (.p (.load1 (.tmp 94))), .mk (some 96) (some (93, true)) (.p (.bin .eql .none (.tmp 95) (.lit (.int IntKind.i64 6)))), .mk (some 97) none (.p (.pick (.tmp 93) (.tmp 96) (.lit (.bool false)))), .mk (some 98) none (.p (.move (.tmp 97))), .mk (some 99) (some (98, true)) (.p (.move (.tmp 19))), .mk (some 100) (some (98, true)) (.p (.move (.tmp 17))), .mk (some 101) (some (98, true)) (.p (.bin .add .none (.tmp 100) (.lit (.int IntKind.i64 1)))), .mk (some 102) (some (98, true)) (.p (.bin .eql .none (.tmp 99) (.tmp 101))), .mk (some 103) none (.p (.pick (.tmp 98) (.tmp 102) (.lit (.bool false)))), .mk (some 6) none (.p (.move (.tmp 103)))])
  .ret))))))))))), [.tmp 6]⟩
theorem code3 (own : OwnT) (mode : FuncId → Nat) : (slimPrg Tryd.prog own mode).code 3 = some c3 := by kernel_rfl
end Go.Lite

/-
  The law NaturalFuel.
-/
namespace Go.Lite
open Go Go.Proofs
set_option maxRecDepth 100000
set_option linter.unusedSimpArgs false
set_option linter.unusedVariables false

set_option maxHeartbeats 8000000 in
theorem law3 (l : List Raw) (less more : Int) (hl : l.length ≤ 9223372036854775807) (hf : Raw.fits l) : Ret P6 3 [vRaws l, .int .i64 less, .int .i64 more] (.bool true) := by
  have hargs : ∀ H, mapHM shutV [vRaws l, .int .i64 less, .int .i64 more] H = some ([vRaws l, .int .i64 less, .int .i64 more], H) := fun H => by simp -implicitDefEqProofs only [↓v_lenS, ZZ, Nat.reduceBEq, reduceIte, Nat.reduceAdd, Nat.reduceLeDiff, Nat.reduceEqDiff, Nat.reduceSub, Nat.reduceMul, Nat.reduceDiv, Nat.reduceBneDiff, XS, shutV_vRaws]
  by_cases hfew : sizeR 13 l ≤ 40
  case neg =>
    refine Ret.of rfl (code3 _ _) rfl rfl hargs (known11.and ((few11 l hl hf).up.and (Ev.ge 1)) |>.mono fun n hn H => ?_)
    obtain ⟨e11, e12, hn⟩ := hn
    rw [decide_eq_false hfew] at e12
    simp -implicitDefEqProofs only [c3, ↓v_lenS, ZZ, Nat.reduceBEq, reduceIte, Nat.reduceAdd, Nat.reduceLeDiff, Nat.reduceEqDiff, Nat.reduceSub, Nat.reduceMul, Nat.reduceDiv, Nat.reduceBneDiff, CM, shutV_vRaws, e11, e12, Ends, gives_ret]
    exact ⟨_, rfl⟩
  obtain ⟨e, me, e13⟩ := few_term l hl hf hfew
  obtain ⟨o, ho, go⟩ := outA_total e me.wf [] 2000 (deep 3000) (by unfold deep; omega)
  have e1 := eval_told me.tame 2000 2000 rfl (by omega) ho
  obtain ⟨ek, et, en, ea⟩ := e
  rw [X.v_mk] at e1
  have hx : ∀ H, shutV (.agg [.int .i64 ek, .str et, vStrs en, vXs ea]) H = some (.agg [.int .i64 ek, .str et, vStrs en, vXs ea], H) := fun H => by simp -implicitDefEqProofs only [↓v_lenS, ZZ, Nat.reduceBEq, reduceIte, Nat.reduceAdd, Nat.reduceLeDiff, Nat.reduceEqDiff, Nat.reduceSub, Nat.reduceMul, Nat.reduceDiv, Nat.reduceBneDiff, XS]
  by_cases h6 : o.kind = 6
  · have hs := (good_kind go).1 h6
    refine Ret.of rfl (code3 _ _) rfl rfl hargs (known11.and ((few11 l hl hf).up.and (e13.and (Ev.ge 1))) |>.mono fun n hn H => ?_)
    obtain ⟨e11, e12, e13, hn⟩ := hn
    obtain ⟨n, rfl⟩ : ∃ k, n = k + 1 := ⟨n - 1, by omega⟩
    rw [decide_eq_true hfew] at e12
    rw [X.v_mk] at e13
    rw [h6, hs] at e1
    have h2001 : ((2000 + 1 : Nat) : Int) == 2001 := rfl
    simp -implicitDefEqProofs only [c3, ↓v_lenS, ZZ, Nat.reduceBEq, reduceIte, Nat.reduceAdd, Nat.reduceLeDiff, Nat.reduceEqDiff, Nat.reduceSub, Nat.reduceMul, Nat.reduceDiv, Nat.reduceBneDiff, CM, shutV_vRaws, XS, e11, e12, e13, call14s, hx, e1, Int.reduceBEq, h2001, Ends, gives_ret]
    exact ⟨_, rfl⟩
  have hs := (good_kind go).2 h6
  have hs1 := out_steps ho
  obtain ⟨w0, w1⟩ := within_range more (b := 1000) (by decide) (by decide)
  obtain ⟨x, hxm⟩ : ∃ x : Nat, within more 1000 = (x : Int) := ⟨(within more 1000).toNat, by omega⟩
  obtain ⟨o2, ho2, go2⟩ := outA_total (.mk ek et en ea) me.wf [] (2000 + x) (deep 3000) (by unfold deep; omega)
  obtain rfl := fuel_more (by omega) ho ho2 h6
  have e2 := eval_told me.tame (2000 + x) ((2000 + x : Nat) : Int) rfl (by omega) ho2
  have e3 := eval_told me.tame o2.st.steps (o2.st.steps : Int) rfl (by omega) (fuel_same ho hs)
  obtain ⟨v0, v1⟩ := within_range less (b := (o2.st.steps : Int)) (by omega) (by omega)
  obtain ⟨k, hk⟩ : ∃ k : Nat, within less (o2.st.steps : Int) = (k : Int) := ⟨(within less (o2.st.steps : Int)).toNat, by omega⟩
  obtain ⟨s', ho4, hs4⟩ := fuel_less ho (k := k) (by omega) (by omega)
  have e4 := eval_told me.tame k (k : Int) rfl (by omega) ho4
  rw [X.v_mk] at e2 e3 e4
  simp only [O.kind, O.txt, O.st, hs4] at e4
  have hw1 : IntKind.i64.wrap (2000 + (x : Int)) = ((2000 + x : Nat) : Int) := by
    rw [wrap64 (by omega) (by omega)]; omega
  have hw2 : IntKind.i64.wrap ((k : Int) + 1) = ((k + 1 : Nat) : Int) := by
    rw [wrap64 (by omega) (by omega)]; omega
  have b6 : (o2.kind == 6) = false := by simpa using h6
  refine Ret.of rfl (code3 _ _) rfl rfl hargs (known11.and ((few11 l hl hf).up.and (e13.and ((run15 more 1000 (by decide)).and ((run15 less (o2.st.steps : Int) (by omega)).and (Ev.ge 1))))) |>.mono fun n hn H => ?_)
  obtain ⟨e11, e12, e13, e15, e15', hn⟩ := hn
  obtain ⟨n, rfl⟩ : ∃ k, n = k + 1 := ⟨n - 1, by omega⟩
  rw [decide_eq_true hfew] at e12
  rw [X.v_mk] at e13
  rw [hxm] at e15
  rw [hk] at e15'
  simp -implicitDefEqProofs only [c3, ↓v_lenS, ZZ, Nat.reduceBEq, reduceIte, Nat.reduceAdd, Nat.reduceLeDiff, Nat.reduceEqDiff, Nat.reduceSub, Nat.reduceMul, Nat.reduceDiv, Nat.reduceBneDiff, CM, shutV_vRaws, XS, e11, e12, e13, e15, e15', call14s, hx, e1, e2, e3, e4, b6, hw1, hw2, beq_self_eq_true, Int.reduceBEq, Ends, gives_ret]
  exact ⟨_, rfl⟩

end Go.Lite

/- The row of the law NaturalFuel, and its card: what its call does, from the interpreter's run; what it lists, tied to the program's text. -/
namespace Go.Proofs.YtmfdlglhngmacaaDoor.naturalFuel
open Go.ChangeShapes Go.WideShapes Go.ChangeAt Go.RowKit Go.Lite
open Go.ChangeMaps (open_string shut_string)
set_option linter.unusedVariables false
set_option maxRecDepth 100000
theorem own : ownKnob Tryd.prog.godebug = none := by kernel_rfl
theorem laidOut : laidOutB Tryd.prog = true := by kernel_rfl
theorem laid_met (os : Os) : laidMet Tryd.prog Rows.naturalFuelRow.laid ((laidWorld Tryd.prog os [(2, Rows.laid_math_bits_deBruijn32tab), (3, Rows.laid_math_bits_deBruijn64tab), (0, Rows.laid_internal_strconv_uint64pow10)]).forCall (fun _ _ => 0) ⟨#[], #[.slice none 0 0, .int .i64 0, .int .i64 0], []⟩).memory :=
  laidMet_of_run' 8 (by kernel_rfl) (by kernel_rfl)
theorem lifted (os : Os) (started : os.Started) (H : Type) (enc : TypeId × Value → H) :
    ReturnsInHanded {} Tryd.checked os 3 .any (fun w args => (Rows.naturalFuelSpec.pre enc Tryd.prog Tryd.f3 Rows.naturalFuelRow.domain false w args ∧ laidMet Tryd.prog Rows.naturalFuelRow.laid w) ∧ sizedMet enc Tryd.prog Tryd.f3 (OpenSpec.ofChange Rows.naturalFuelSpec) false w args) (Rows.naturalFuelSpec.post enc Tryd.prog Tryd.f3 false true false false) := by
  refine returns_laid (C := Tryd.checked) (X := fun w _ => laidMet Tryd.prog Rows.naturalFuelRow.laid w) own started (by kernel_rfl) Tryd.func3
    (ChangeSpec.witness_at (enc := enc) (C := Tryd.checked) (os := os) (X := fun w _ => laidMet Tryd.prog Rows.naturalFuelRow.laid w) false (laidWorld Tryd.prog os [(2, Rows.laid_math_bits_deBruijn32tab), (3, Rows.laid_math_bits_deBruijn64tab), (0, Rows.laid_internal_strconv_uint64pow10)]) #[.slice none 0 0, .int .i64 0, .int .i64 0] 8 rfl (by kernel_rfl) (by kernel_rfl) (by kernel_rfl) (by kernel_rfl) (by kernel_rfl) (laid_met os)) ?_
  intro W base args ds gs before hval0 hW hcnd hsz0 hsh hlx _
  have hsz : (DataW.weightsEach Tryd.prog (Tryd.f3.params.toList ++ Rows.naturalFuelSpec.plain.varTypes Tryd.prog) (ds ++ gs)).all (· ≤ reachBytes) = true := hsz0
  have hval : ∀ (j : Nat) t v, Tryd.f3.params[j]? = some t → args[j]? = some v → Value.okWide Tryd.prog W .any base t v := hval0
  have hW' := hW
  obtain ⟨p, q, hA0, hV, rfl, hfz, hnd⟩ := hW
  have hA : DataW.TrodAll enc Tryd.prog W 0 (fun _ => true) true Tryd.f3.params.toList args.toList ds p := hA0
  rw [Tryd.params3] at hA hval hsz
  obtain ⟨v0, vs0, d0, ds0, p0, q0, hargs, rfl, rfl, h0, r0⟩ := trodAll_cons hA
  obtain ⟨v1, vs1, d1, ds1, p1, q1, rfl, rfl, rfl, h1, r1⟩ := trodAll_cons r0
  obtain ⟨v2, vs2, d2, ds2, p2, q2, rfl, rfl, rfl, h2, r2⟩ := trodAll_cons r1
  obtain ⟨rfl, rfl, rfl⟩ := trodAll_nil r2
  obtain rfl : args = #[v0, v1, v2] := by cases args; simp_all
  obtain ⟨rfl, rfl⟩ := trodVars_none hV
  have k0 := h0
  have lt0 : ∀ x ∈ p0, x.block < W.heap.size := by obtain ⟨m, hm⟩ := k0; exact DataW.trod_lt m _ _ _ hm
  have o0 := (hval 0 22 v0 rfl rfl)
  obtain ⟨z0, n0, c0, rfl⟩ := okWide_slice Tryd.underlying22 o0
  obtain ⟨g0, y0⟩ := h0
  obtain ⟨a0, ⟨w0, x0⟩, e0⟩ := open_raws Tryd.underlying22 Tryd.underlying50 (by kernel_rfl) ⟨_, rfl, rfl, Tryd.underlying3, by kernel_rfl⟩ ⟨_, rfl, rfl, Tryd.underlying3, by kernel_rfl⟩ ⟨_, rfl, rfl, rfl, by kernel_rfl⟩ g0 (.slice z0 n0 c0) _ (by simpa [Value.cells] using y0)
  obtain ⟨a1, rfl, rfl, rfl, w1⟩ := open_int Tryd.underlying3 (hval 1 3 v1 rfl rfl) h1
  obtain ⟨a2, rfl, rfl, rfl, w2⟩ := open_int Tryd.underlying3 (hval 2 3 v2 rfl rfl) h2
  refine (calls_of_ret hsh (tab_of_laid hlx) (law3 _ a1 a2 w0 x0) (by simp only [VRels]; exact ⟨_, _, rfl, e0, _, _, rfl, rfl, _, _, rfl, rfl, rfl⟩)).mono fun e W' ⟨he, bel⟩ => ?_
  subst he
  exact ⟨_, rfl, _, _, _, [], _, [], hW', trodAll_mk1 (shut_bool Tryd.underlying4 _), (trodAll_cons_mk (Below.trod laidOut (by kernel_rfl) (of_decide_eq_true (by kernel_rfl)) k0 bel lt0) (trodAll_cons_mk (shut_int Tryd.underlying3 w1) (trodAll_cons_mk (shut_int Tryd.underlying3 w2) trodAll_mk0))), rfl, bel.frame _, fun h => by cases h⟩
theorem over : Rows.naturalFuelRow.holds Tryd.pinned (OpenSpec.ofChange Rows.naturalFuelSpec) :=
  OpenClaim.holds_of_wide 3 Tryd.f3 rfl rfl rfl rfl rfl rfl rfl ⟨rfl, rfl, rfl, rfl, rfl⟩ rfl rfl rfl rfl rfl (by kernel_rfl) Tryd.func3 (by kernel_rfl)
    (of_decide_eq_true (by kernel_rfl)) (by unfold Func.isWrapper; first | (rw [if_pos (by decide +kernel)]; kernel_rfl) | (rw [if_neg (by decide +kernel)]; exact ⟨rfl, rfl⟩))
    (fun os started H enc _ => lifted os started H enc)
theorem card : Rows.NaturalFuelCardSaid :=
  Claim7.holds_tied_plain_at .later [] [.data, .data, .data] true (true, "06472ccc2e734025fb51c4dbe6afee2256fcaf741367e7b75c75ff11b22c96a1") true over (fun _ h => by cases h) (by kernel_rfl) (fun _ h => by cases h) naturalFuel_row_tie rfl ⟨rfl, rfl⟩ (by kernel_rfl) (by first | rfl | decide)
    (fun f fn h1 h2 => by
      obtain rfl : f = 3 := Option.some.inj (h1.symm.trans (by kernel_rfl))
      obtain rfl : fn = Tryd.f3 := Option.some.inj (h2.symm.trans Tryd.func3)
      refine ⟨by kernel_rfl, fun j t hj => ?_⟩
      rw [Tryd.params3] at hj
      match j, hj with
      | 0, hj =>
        obtain rfl : t = 22 := by simpa using hj.symm
        exact (by kernel_rfl : Tryd.pinned.checked.prog.wantsStandIn 22 = false)
      | 1, hj =>
        obtain rfl : t = 3 := by simpa using hj.symm
        exact (by kernel_rfl : Tryd.pinned.checked.prog.wantsStandIn 3 = false)
      | 2, hj =>
        obtain rfl : t = 3 := by simpa using hj.symm
        exact (by kernel_rfl : Tryd.pinned.checked.prog.wantsStandIn 3 = false)
      | j + 3, hj => simp at hj)
    (by kernel_rfl)
#print axioms card
end Go.Proofs.YtmfdlglhngmacaaDoor.naturalFuel
namespace Go.Proofs.YtmfdlglhngmacaaDoor
/-- The card, under a short name, for the claim. -/
theorem naturalFuel_holds : Rows.NaturalFuelCardSaid := naturalFuel.card
end Go.Proofs.YtmfdlglhngmacaaDoor
