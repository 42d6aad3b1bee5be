/- The row of the law NaturalIf, and its card: what its call does, from the interpreter's run; what it lists, tied to the program's text. -/
import Derived.Test.YtmfdlglhngmacaaDoorQC
import Derived.Test.YtmfdlglhngmacaaDoorProg
import Derived.Test.YtmfdlglhngmacaaDoorQD
import Derived.Test.YtmfdlglhngmacaaDoorQO
import Derived.Test.YtmfdlglhngmacaaDoorTie
import Derived.Test.YtmfdlglhngmacaaDoorCards
import Derived.WalkKit
import Derived.ProofKit
import Derived.OpenShut
import Derived.ShutString
import Derived.ChangeOld
import Derived.Below
import Derived.SizedLaws
import Derived.HandedShaped
import Derived.Carry
import Derived.SevenTiedAt

/-
  The slimmed code of the functions, printed by program, and that it is what is computed from the program.
-/
namespace Go.Lite
open Go Go.Proofs
set_option maxRecDepth 100000
-- thunk/thunklaw10.NaturalIf
def c8 : SFunc := ⟨79, (.seq (.ops [.mk (some 6) none (.p (.move (.lit (.bool false))))])
  (.seq (.seq (.ops [.mk (some 18) none (.call (.lit (.func 11 [])) []), .mk (some 19) none (.p (.not (.tmp 18)))])
  (.cond (.tmp 19)
  (.seq (.ops [.mk (some 6) none (.p (.move (.lit (.bool false))))])
  .ret)
  .skip))
  (.seq (.seq (.ops [.mk (some 20) none (.p (.move (.tmp 0))), .mk (some 21) none (.call (.lit (.func 12 [])) [.tmp 20]), .mk (some 22) none (.p (.not (.tmp 21))), .mk (some 23) none (.p (.move (.tmp 22))), .mk (some 24) (some (23, false)) (.p (.move (.tmp 1))), .mk (some 25) (some (23, false)) (.call (.lit (.func 12 [])) [.tmp 24]), .mk (some 26) (some (23, false)) (.p (.not (.tmp 25))), .mk (some 27) none (.p (.pick (.tmp 23) (.lit (.bool true)) (.tmp 26)))])
  (.cond (.tmp 27)
  (.seq (.ops [.mk (some 6) none (.p (.move (.lit (.bool true))))])
  .ret)
  .skip))
  (.seq (.ops [.mk (some 28) none (.p (.move (.tmp 0))), .mk (some 29) none (.call (.lit (.func 13 [])) [.tmp 28]), .mk (some 30) none (.p (.move (.tmp 1))), .mk (some 31) none (.call (.lit (.func 13 [])) [.tmp 30]), .mk (some 7) none (.a (.newc 28 [.int IntKind.i64 0, .str [], .nils, .nils])), .mk (some 8) none (.a (.newc 28 [.int IntKind.i64 0, .str [], .nils, .nils])), .mk none none (.w (.store 4 (.tmp 7) (.tmp 29))), .mk none none (.w (.store 4 (.tmp 8) (.tmp 31)))])
  (.seq (.ops [.mk (some 32) none (.p (.build [.int IntKind.i64 0, .str [], .nils, .nils] [(0, 1, .lit (.int IntKind.i64 2)), (1, 1, .lit (.str [35, 102]))])), .mk (some 33) none (.p (.build [.int IntKind.i64 0, .str [], .nils, .nils] [(0, 1, .lit (.int IntKind.i64 2)), (1, 1, .lit (.str [35, 116]))])), .mk (some 34) none (.p (.build [.int IntKind.i64 0, .str [], .nils, .nils] [(0, 1, .lit (.int IntKind.i64 3))])), .mk (some 35) none (.p (.build [.int IntKind.i64 0, .str [], .nils, .nils] [(0, 1, .lit (.int IntKind.i64 1)), (1, 1, .lit (.str [48]))])), .mk (some 36) none (.p (.build [.int IntKind.i64 0, .str [], .nils, .nils] [(0, 1, .lit (.int IntKind.i64 4)), (1, 1, .lit (.str [110, 111]))])), .mk (some 37) none (.a (.buildS [.int IntKind.i64 0, .str [], .nils, .nils, .int IntKind.i64 0, .str [], .nils, .nils, .int IntKind.i64 0, .str [], .nils, .nils, .int IntKind.i64 0, .str [], .nils, .nils, .int IntKind.i64 0, .str [], .nils, .nils] 5 [(0, 4, .tmp 32), (4, 4, .tmp 33), (8, 4, .tmp 34), (12, 4, .tmp 35), (16, 4, .tmp 36)])), .mk (some 9) none (.p (.move (.tmp 37)))])
  (.seq (.ops [.mk (some 38) none (.p (.move (.tmp 2))), .mk (some 39) none (.p (.move (.tmp 9))), .mk (some 40) none (.p (.lenS (.tmp 39))), .mk (some 41) none (.call (.lit (.func 15 [])) [.tmp 38, .tmp 40]), .mk (some 10) none (.p (.move (.tmp 41)))])
  (.seq (.draw [.mk (some 43) none (.p (.move (.tmp 9))), .mk (some 44) none (.p (.move (.tmp 10))), .mk (some 45) none (.p (.iaddr 4 (.tmp 43) (.tmp 44))), .mk (some 46) none (.p (.loadn 4 (.tmp 45))), .mk (some 47) none (.p (.loadn 4 (.tmp 7))), .mk (some 48) none (.p (.loadn 4 (.tmp 8))), .mk (some 49) none (.a (.buildS [.int IntKind.i64 0, .str [], .nils, .nils, .int IntKind.i64 0, .str [], .nils, .nils, .int IntKind.i64 0, .str [], .nils, .nils] 3 [(0, 4, .tmp 46), (4, 4, .tmp 47), (8, 4, .tmp 48)])), .mk (some 50) none (.p (.build [.int IntKind.i64 0, .str [], .nils, .nils] [(0, 1, .lit (.int IntKind.i64 8)), (3, 1, .tmp 49)])), .mk (some 11) none (.a (.newc 31 [.int IntKind.i64 0, .str [], .int IntKind.i64 0]))] [(.mk (some 51) none (.call (.lit (.func 14 [])) [.tmp 50, .lit .nils, .lit (.int IntKind.i64 2002)]), [], [.mk (some 42) none (.p (.move (.tmp 51))), .mk (some 52) none (.p (.extract (.tmp 42) 0)), .mk (some 53) none (.p (.extract (.tmp 42) 1)), .mk (some 54) none (.p (.extract (.tmp 42) 2))]), (.mk none none (.w (.store 3 (.tmp 11) (.tmp 52))), [], [.mk (some 12) none (.p (.move (.tmp 53))), .mk (some 13) none (.p (.move (.tmp 54)))])])
  (.seq (.ops [.mk (some 55) none (.p (.loadn 4 (.tmp 7))), .mk (some 14) none (.a (.newc 28 [.int IntKind.i64 0, .str [], .nils, .nils])), .mk none none (.w (.store 4 (.tmp 14) (.tmp 55)))])
  (.seq (.seq (.ops [.mk (some 56) none (.p (.move (.tmp 10))), .mk (some 57) none (.p (.bin .eql .none (.tmp 56) (.lit (.int IntKind.i64 0))))])
  (.cond (.tmp 57)
  (.ops [.mk (some 58) none (.p (.loadn 4 (.tmp 8))), .mk none none (.w (.store 4 (.tmp 14) (.tmp 58)))])
  .skip))
  (.seq (.ops [.mk (some 60) none (.p (.loadn 4 (.tmp 14))), .mk (some 61) none (.call (.lit (.func 14 [])) [.tmp 60, .lit .nils, .lit (.int IntKind.i64 2000)]), .mk (some 59) none (.p (.move (.tmp 61))), .mk (some 62) none (.p (.extract (.tmp 59) 0)), .mk (some 63) none (.p (.extract (.tmp 59) 1)), .mk (some 64) none (.p (.extract (.tmp 59) 2)), .mk (some 15) none (.a (.newc 31 [.int IntKind.i64 0, .str [], .int IntKind.i64 0])), .mk none none (.w (.store 3 (.tmp 15) (.tmp 62))), .mk (some 16) none (.p (.move (.tmp 63))), .mk (some 17) none (.p (.move (.tmp 64)))])
  (.seq (.ops [.mk (some 65) none (.p (.loadn 3 (.tmp 11))), .mk (some 66) none (.p (.loadn 3 (.tmp 15))), .mk (some 67) none (.p (.bin .eql (.many [(0, 1), (1, 2), (2, 1)]) (.tmp 65) (.tmp 66))), .mk (some 68) none (.p (.move (.tmp 67))), .mk (some 69) (some (68, true)) (.p (.move (.tmp 12))), .mk (some 70) (some (68, true)) (.p (.move (.tmp 16))), .mk (some 71) (some (68, true)) (.p (.bin .add .none (.tmp 70) (.lit (.int IntKind.i64 2)))), .mk (some 72) (some (68, true)) (.p (.bin .eql .none (.tmp 69) (.tmp 71))), .mk (some 73) none (.p (.pick (.tmp 68) (.tmp 72) (.lit (.bool false)))), .mk (some 74) none (.p (.move (.tmp 73))), .mk (some 75) (some (74, true)) (.p (.move (.tmp 13))), .mk (some 76) (some (74, true)) (.p (.move (.tmp 17))), .mk (some 77) (some (74, true)) (.p (.bin .eql .none (.tmp 75) (.tmp 76))), .mk (some 78) none (.p (.pick (.tmp 74) (.tmp 77) (.lit (.bool false)))), .mk (some 6) none (.p (.move (.tmp 78)))])
  .ret))))))))))), [.tmp 6]⟩
theorem code8 (own : OwnT) (mode : FuncId → Nat) : (slimPrg Tryd.prog own mode).code 8 = some c8 := by kernel_rfl
end Go.Lite

/-
  The law NaturalIf.
-/
namespace Go.Lite
open Go Go.Proofs
set_option maxRecDepth 100000
set_option linter.unusedSimpArgs false
set_option linter.unusedVariables false

def atoms5 : List (Int × Str) := [(2, [35, 102]), (2, [35, 116]), (3, []), (1, [48]), (4, [110, 111])]

theorem atoms_ok {k : Nat} {a : Int × Str} (h : atoms5[k]? = some a) : 1 ≤ a.1 ∧ a.1 ≤ 4 ∧ numOk a.1 a.2 ∧ (constV a.1 a.2).isFalse = (k == 0) ∧ k < 5 ∧
    ((([AV.int .i64 2, .str [35, 102], .lst 0 0 true [], .lst 0 0 true [], .int .i64 2, .str [35, 116], .lst 0 0 true [], .lst 0 0 true [], .int .i64 3, .str [], .lst 0 0 true [], .lst 0 0 true [], .int .i64 1, .str [48], .lst 0 0 true [], .lst 0 0 true [], .int .i64 4, .str [110, 111], .lst 0 0 true [], .lst 0 0 true []] : List AV).drop (k * 4)).take 4) = [.int .i64 a.1, .str a.2, .lst 0 0 true [], .lst 0 0 true []] := by
  have hz : numOk 1 [48] := ⟨⟨by simp, by simp⟩, fun _ => ⟨0, by decide, by rw [show (0 : Int) = ((0 : Nat) : Int) from rfl, decZ_nonneg, decN_small (by omega)]⟩⟩
  match k, h with
  | 0, h => cases h; exact ⟨by decide, by decide, ⟨⟨by simp, by simp⟩, fun h => absurd h (by decide)⟩, by decide, by decide, rfl⟩
  | 1, h => cases h; exact ⟨by decide, by decide, ⟨⟨by simp, by simp⟩, fun h => absurd h (by decide)⟩, by decide, by decide, rfl⟩
  | 2, h => cases h; exact ⟨by decide, by decide, ⟨⟨by simp, by simp⟩, fun h => absurd h (by decide)⟩, by decide, by decide, rfl⟩
  | 3, h => cases h; exact ⟨by decide, by decide, hz, by decide, by decide, rfl⟩
  | 4, h => cases h; exact ⟨by decide, by decide, ⟨⟨by simp, by simp⟩, fun h => absurd h (by decide)⟩, by decide, by decide, rfl⟩
  | k + 5, h => simp [atoms5] at h

set_option maxHeartbeats 8000000 in
theorem law8 (l m : List Raw) (which : Int) (hl : l.length ≤ 9223372036854775807) (hf : Raw.fits l) (hl2 : m.length ≤ 9223372036854775807) (hf2 : Raw.fits m) : Ret P6 8 [vRaws l, vRaws m, .int .i64 which] (.bool true) := by
  have hargs : ∀ H, mapHM shutV [vRaws l, vRaws m, .int .i64 which] H = some ([vRaws l, vRaws m, .int .i64 which], H) := fun H => by simp -implicitDefEqProofs only [↓v_lenS, ZZ, Nat.reduceBEq, reduceIte, Nat.reduceAdd, Nat.reduceLeDiff, Nat.reduceEqDiff, Nat.reduceSub, Nat.reduceMul, Nat.reduceDiv, Nat.reduceBneDiff, XS, shutV_vRaws]
  by_cases hfew : sizeR 13 l ≤ 40
  case neg =>
    refine Ret.of rfl (code8 _ _) rfl rfl hargs (known11.and ((few11 l hl hf).up.and (Ev.ge 1)) |>.mono fun n hn H => ?_)
    obtain ⟨e11, e12, hn⟩ := hn
    rw [decide_eq_false hfew] at e12
    simp -implicitDefEqProofs only [c8, ↓v_lenS, ZZ, Nat.reduceBEq, reduceIte, Nat.reduceAdd, Nat.reduceLeDiff, Nat.reduceEqDiff, Nat.reduceSub, Nat.reduceMul, Nat.reduceDiv, Nat.reduceBneDiff, CM, shutV_vRaws, e11, e12, Ends, gives_ret]
    exact ⟨_, rfl⟩
  by_cases hfew2 : sizeR 13 m ≤ 40
  case neg =>
    refine Ret.of rfl (code8 _ _) rfl rfl hargs (known11.and ((few11 l hl hf).up.and ((few11 m hl2 hf2).up.and (Ev.ge 1))) |>.mono fun n hn H => ?_)
    obtain ⟨e11, e12, e12', hn⟩ := hn
    rw [decide_eq_true hfew] at e12
    rw [decide_eq_false hfew2] at e12'
    simp -implicitDefEqProofs only [c8, ↓v_lenS, ZZ, Nat.reduceBEq, reduceIte, Nat.reduceAdd, Nat.reduceLeDiff, Nat.reduceEqDiff, Nat.reduceSub, Nat.reduceMul, Nat.reduceDiv, Nat.reduceBneDiff, CM, shutV_vRaws, e11, e12, e12', Ends, gives_ret]
    exact ⟨_, rfl⟩
  obtain ⟨a, ma, ea⟩ := few_term l hl hf hfew
  obtain ⟨b, mb, eb⟩ := few_term m hl2 hf2 hfew2
  obtain ⟨w0, w1⟩ := within_range which (b := 5) (by decide) (by decide)
  obtain ⟨k, hk⟩ : ∃ k : Nat, within which 5 = (k : Int) := ⟨(within which 5).toNat, by omega⟩
  have hk5 : k < 5 := by omega
  obtain ⟨c, hc⟩ : ∃ c, atoms5[k]? = some c := ⟨atoms5[k]'(by simpa [atoms5] using hk5), List.getElem?_eq_getElem _⟩
  obtain ⟨c1, c2, c3, c4, _, hdrop⟩ := atoms_ok hc
  obtain ⟨kx, tx⟩ := c
  simp only at c1 c2 c3 c4 hdrop
  have hwf : (if (constV kx tx).isFalse then b else a).wf := by
    by_cases h : (constV kx tx).isFalse = true
    · rw [if_pos h]; exact mb.wf
    · rw [if_neg h]; exact ma.wf
  obtain ⟨o, ho, go⟩ := outA_total (if (constV kx tx).isFalse then b else a) hwf [] 2000 (deep 3000) (by unfold deep; omega)
  have hif := if_out (tt := []) (nn := []) (ns := []) (l := []) c1 c2 ho
  have ht1 : (X.mk 8 [] [] [.mk kx tx [] [], a, b]).tame := ⟨⟨⟨by simp, by simp⟩, fun h => absurd h (by decide)⟩, by simp, by simp, ⟨c3, by simp, by simp, trivial⟩, ma.tame, mb.tame, trivial⟩
  have e1 := eval_told ht1 2002 2002 rfl (by omega) hif
  obtain ⟨s1, s2, s3, s4⟩ := sh_told o 2 0
  rw [s1, s2, s3, s4, Nat.add_zero] at e1
  rw [c4] at ho
  have htm : (if (k == 0) = true then b else a).tame := by
    by_cases h : (k == 0) = true
    · rw [if_pos h]; exact mb.tame
    · rw [if_neg h]; exact ma.tame
  have e2 := eval_told htm 2000 2000 rfl (by omega) ho
  have hs := good_kind go
  have hss : o.st.steps ≤ 2001 := by
    rcases Classical.em (o.kind = 6) with h | h
    · have := hs.1 h; omega
    · have := hs.2 h; omega
  have hw : IntKind.i64.wrap ((o.st.steps : Int) + 2) = ((o.st.steps + 2 : Nat) : Int) := by
    rw [wrap64 (by omega) (by omega)]; omega
  obtain ⟨ak, at', an, al⟩ := a
  obtain ⟨bk, bt, bn, bl⟩ := b
  simp only [X.v_mk, vXs, vList_cons, vList_nil, List.flatMap_cons, List.flatMap_nil, List.length_cons, List.length_nil, X.cells_mk, List.cons_append, List.nil_append, List.append_nil, vStrs_nil, Nat.reduceAdd] at e1
  simp only [show ∀ l : List X, vList true 4 X.cells l = vXs l from fun _ => rfl] at e1
  have hx : ∀ ek et en ea, ∀ H, shutV (.agg [.int .i64 ek, .str et, vStrs en, vXs ea]) H = some (.agg [.int .i64 ek, .str et, vStrs en, vXs ea], H) := fun ek et en ea H => by simp -implicitDefEqProofs only [↓v_lenS, ZZ, Nat.reduceBEq, reduceIte, Nat.reduceAdd, Nat.reduceLeDiff, Nat.reduceEqDiff, Nat.reduceSub, Nat.reduceMul, Nat.reduceDiv, Nat.reduceBneDiff, XS]
  refine Ret.of rfl (code8 _ _) rfl rfl hargs (known11.and ((few11 l hl hf).up.and ((few11 m hl2 hf2).up.and (ea.and (eb.and ((run15 which ((5 : Nat) : Int) (by decide)).and (Ev.ge 1)))))) |>.mono fun n hn H => ?_)
  obtain ⟨e11, e12, e12', e13, e13', e15, hn⟩ := hn
  obtain ⟨n, rfl⟩ : ∃ k, n = k + 1 := ⟨n - 1, by omega⟩
  rw [decide_eq_true hfew] at e12
  rw [decide_eq_true hfew2] at e12'
  rw [show within which ((5 : Nat) : Int) = (k : Int) from hk] at e15
  rw [X.v_mk] at e13 e13'
  cases hk0 : ((k : Int) == 0) with
  | true =>
    have hkk : (k == 0) = true := by
      have : (k : Int) = 0 := by simpa using hk0
      simp; omega
    simp only [hkk, if_true, X.v_mk] at e2
    simp -implicitDefEqProofs only [c8, ↓v_lenS, ZZ, Nat.reduceBEq, reduceIte, Nat.reduceAdd, Nat.reduceLeDiff, Nat.reduceEqDiff, Nat.reduceSub, Nat.reduceMul, Nat.reduceDiv, Nat.reduceBneDiff, CM, shutV_vRaws, XS, e11, e12, e12', e13, e13', e15, hk5, hdrop, call14s, hx, e1, e2, hk0, hw, beq_self_eq_true, Ends, gives_ret]
    exact ⟨_, rfl⟩
  | false =>
    have hkk : (k == 0) = false := by
      have : ¬ (k : Int) = 0 := by simpa using hk0
      simp; omega
    simp only [hkk, Bool.false_eq_true, if_false, X.v_mk] at e2
    simp -implicitDefEqProofs only [c8, ↓v_lenS, ZZ, Nat.reduceBEq, reduceIte, Nat.reduceAdd, Nat.reduceLeDiff, Nat.reduceEqDiff, Nat.reduceSub, Nat.reduceMul, Nat.reduceDiv, Nat.reduceBneDiff, CM, shutV_vRaws, XS, e11, e12, e12', e13, e13', e15, hk5, hdrop, call14s, hx, e1, e2, hk0, hw, beq_self_eq_true, Ends, gives_ret]
    exact ⟨_, rfl⟩

end Go.Lite

/- The row of the law NaturalIf, and its card: what its call does, from the interpreter's run; what it lists, tied to the program's text. -/
namespace Go.Proofs.YtmfdlglhngmacaaDoor.naturalIf
open Go.ChangeShapes Go.WideShapes Go.ChangeAt Go.RowKit Go.Lite
open Go.ChangeMaps (open_string shut_string)
set_option linter.unusedVariables false
set_option maxRecDepth 100000
theorem own : ownKnob Tryd.prog.godebug = none := by kernel_rfl
theorem laidOut : laidOutB Tryd.prog = true := by kernel_rfl
theorem laid_met (os : Os) : laidMet Tryd.prog Rows.naturalIfRow.laid ((laidWorld Tryd.prog os [(2, Rows.laid_math_bits_deBruijn32tab), (3, Rows.laid_math_bits_deBruijn64tab), (0, Rows.laid_internal_strconv_uint64pow10)]).forCall (fun _ _ => 0) ⟨#[], #[.slice none 0 0, .slice none 0 0, .int .i64 0], []⟩).memory :=
  laidMet_of_run' 8 (by kernel_rfl) (by kernel_rfl)
theorem lifted (os : Os) (started : os.Started) (H : Type) (enc : TypeId × Value → H) :
    ReturnsInHanded {} Tryd.checked os 8 .any (fun w args => (Rows.naturalIfSpec.pre enc Tryd.prog Tryd.f8 Rows.naturalIfRow.domain false w args ∧ laidMet Tryd.prog Rows.naturalIfRow.laid w) ∧ sizedMet enc Tryd.prog Tryd.f8 (OpenSpec.ofChange Rows.naturalIfSpec) false w args) (Rows.naturalIfSpec.post enc Tryd.prog Tryd.f8 false true false false) := by
  refine returns_laid (C := Tryd.checked) (X := fun w _ => laidMet Tryd.prog Rows.naturalIfRow.laid w) own started (by kernel_rfl) Tryd.func8
    (ChangeSpec.witness_at (enc := enc) (C := Tryd.checked) (os := os) (X := fun w _ => laidMet Tryd.prog Rows.naturalIfRow.laid w) false (laidWorld Tryd.prog os [(2, Rows.laid_math_bits_deBruijn32tab), (3, Rows.laid_math_bits_deBruijn64tab), (0, Rows.laid_internal_strconv_uint64pow10)]) #[.slice none 0 0, .slice none 0 0, .int .i64 0] 8 rfl (by kernel_rfl) (by kernel_rfl) (by kernel_rfl) (by kernel_rfl) (by kernel_rfl) (laid_met os)) ?_
  intro W base args ds gs before hval0 hW hcnd hsz0 hsh hlx _
  have hsz : (DataW.weightsEach Tryd.prog (Tryd.f8.params.toList ++ Rows.naturalIfSpec.plain.varTypes Tryd.prog) (ds ++ gs)).all (· ≤ reachBytes) = true := hsz0
  have hval : ∀ (j : Nat) t v, Tryd.f8.params[j]? = some t → args[j]? = some v → Value.okWide Tryd.prog W .any base t v := hval0
  have hW' := hW
  obtain ⟨p, q, hA0, hV, rfl, hfz, hnd⟩ := hW
  have hA : DataW.TrodAll enc Tryd.prog W 0 (fun _ => true) true Tryd.f8.params.toList args.toList ds p := hA0
  rw [Tryd.params8] at hA hval hsz
  obtain ⟨v0, vs0, d0, ds0, p0, q0, hargs, rfl, rfl, h0, r0⟩ := trodAll_cons hA
  obtain ⟨v1, vs1, d1, ds1, p1, q1, rfl, rfl, rfl, h1, r1⟩ := trodAll_cons r0
  obtain ⟨v2, vs2, d2, ds2, p2, q2, rfl, rfl, rfl, h2, r2⟩ := trodAll_cons r1
  obtain ⟨rfl, rfl, rfl⟩ := trodAll_nil r2
  obtain rfl : args = #[v0, v1, v2] := by cases args; simp_all
  obtain ⟨rfl, rfl⟩ := trodVars_none hV
  have k0 := h0
  have lt0 : ∀ x ∈ p0, x.block < W.heap.size := by obtain ⟨m, hm⟩ := k0; exact DataW.trod_lt m _ _ _ hm
  have o0 := (hval 0 22 v0 rfl rfl)
  obtain ⟨z0, n0, c0, rfl⟩ := okWide_slice Tryd.underlying22 o0
  obtain ⟨g0, y0⟩ := h0
  obtain ⟨a0, ⟨w0, x0⟩, e0⟩ := open_raws Tryd.underlying22 Tryd.underlying50 (by kernel_rfl) ⟨_, rfl, rfl, Tryd.underlying3, by kernel_rfl⟩ ⟨_, rfl, rfl, Tryd.underlying3, by kernel_rfl⟩ ⟨_, rfl, rfl, rfl, by kernel_rfl⟩ g0 (.slice z0 n0 c0) _ (by simpa [Value.cells] using y0)
  have k1 := h1
  have lt1 : ∀ x ∈ p1, x.block < W.heap.size := by obtain ⟨m, hm⟩ := k1; exact DataW.trod_lt m _ _ _ hm
  have o1 := (hval 1 22 v1 rfl rfl)
  obtain ⟨z1, n1, c1, rfl⟩ := okWide_slice Tryd.underlying22 o1
  obtain ⟨g1, y1⟩ := h1
  obtain ⟨a1, ⟨w1, x1⟩, e1⟩ := open_raws Tryd.underlying22 Tryd.underlying50 (by kernel_rfl) ⟨_, rfl, rfl, Tryd.underlying3, by kernel_rfl⟩ ⟨_, rfl, rfl, Tryd.underlying3, by kernel_rfl⟩ ⟨_, rfl, rfl, rfl, by kernel_rfl⟩ g1 (.slice z1 n1 c1) _ (by simpa [Value.cells] using y1)
  obtain ⟨a2, rfl, rfl, rfl, w2⟩ := open_int Tryd.underlying3 (hval 2 3 v2 rfl rfl) h2
  refine (calls_of_ret hsh (tab_of_laid hlx) (law8 _ _ a2 w0 x0 w1 x1) (by simp only [VRels]; exact ⟨_, _, rfl, e0, _, _, rfl, e1, _, _, rfl, rfl, rfl⟩)).mono fun e W' ⟨he, bel⟩ => ?_
  subst he
  exact ⟨_, rfl, _, _, _, [], _, [], hW', trodAll_mk1 (shut_bool Tryd.underlying4 _), (trodAll_cons_mk (Below.trod laidOut (by kernel_rfl) (of_decide_eq_true (by kernel_rfl)) k0 bel lt0) (trodAll_cons_mk (Below.trod laidOut (by kernel_rfl) (of_decide_eq_true (by kernel_rfl)) k1 bel lt1) (trodAll_cons_mk (shut_int Tryd.underlying3 w2) trodAll_mk0))), rfl, bel.frame _, fun h => by cases h⟩
theorem over : Rows.naturalIfRow.holds Tryd.pinned (OpenSpec.ofChange Rows.naturalIfSpec) :=
  OpenClaim.holds_of_wide 8 Tryd.f8 rfl rfl rfl rfl rfl rfl rfl ⟨rfl, rfl, rfl, rfl, rfl⟩ rfl rfl rfl rfl rfl (by kernel_rfl) Tryd.func8 (by kernel_rfl)
    (of_decide_eq_true (by kernel_rfl)) (by unfold Func.isWrapper; first | (rw [if_pos (by decide +kernel)]; kernel_rfl) | (rw [if_neg (by decide +kernel)]; exact ⟨rfl, rfl⟩))
    (fun os started H enc _ => lifted os started H enc)
theorem card : Rows.NaturalIfCardSaid :=
  Claim7.holds_tied_plain_at .later [] [.data, .data, .data] true (true, "06472ccc2e734025fb51c4dbe6afee2256fcaf741367e7b75c75ff11b22c96a1") true over (fun _ h => by cases h) (by kernel_rfl) (fun _ h => by cases h) naturalIf_row_tie rfl ⟨rfl, rfl⟩ (by kernel_rfl) (by first | rfl | decide)
    (fun f fn h1 h2 => by
      obtain rfl : f = 8 := Option.some.inj (h1.symm.trans (by kernel_rfl))
      obtain rfl : fn = Tryd.f8 := Option.some.inj (h2.symm.trans Tryd.func8)
      refine ⟨by kernel_rfl, fun j t hj => ?_⟩
      rw [Tryd.params8] at hj
      match j, hj with
      | 0, hj =>
        obtain rfl : t = 22 := by simpa using hj.symm
        exact (by kernel_rfl : Tryd.pinned.checked.prog.wantsStandIn 22 = false)
      | 1, hj =>
        obtain rfl : t = 22 := by simpa using hj.symm
        exact (by kernel_rfl : Tryd.pinned.checked.prog.wantsStandIn 22 = false)
      | 2, hj =>
        obtain rfl : t = 3 := by simpa using hj.symm
        exact (by kernel_rfl : Tryd.pinned.checked.prog.wantsStandIn 3 = false)
      | j + 3, hj => simp at hj)
    (by kernel_rfl)
#print axioms card
end Go.Proofs.YtmfdlglhngmacaaDoor.naturalIf
namespace Go.Proofs.YtmfdlglhngmacaaDoor
/-- The card, under a short name, for the claim. -/
theorem naturalIf_holds : Rows.NaturalIfCardSaid := naturalIf.card
end Go.Proofs.YtmfdlglhngmacaaDoor
