/- The row of the law NaturalApply, and its card: what its call does, from the interpreter's run; what it lists, tied to the program's text. -/
import Derived.Test.YtmfdlglhngmacaaDoorQC
import Derived.Test.YtmfdlglhngmacaaDoorProg
import Derived.Test.YtmfdlglhngmacaaDoorQD
import Derived.Test.YtmfdlglhngmacaaDoorQOb
import Derived.Test.YtmfdlglhngmacaaDoorTie
import Derived.Test.YtmfdlglhngmacaaDoorCards
import Derived.WalkKit
import Derived.ProofKit
import Derived.OpenShut
import Derived.ShutString
import Derived.ChangeOld
import Derived.Below
import Derived.SizedLaws
import Derived.HandedShaped
import Derived.Carry
import Derived.SevenTiedAt

/-
  The slimmed code of the functions, printed by program, and that it is what is computed from the program.
-/
namespace Go.Lite
open Go Go.Proofs
set_option maxRecDepth 100000
-- thunk/thunklaw10.NaturalApply
def c9 : SFunc := ⟨133, (.seq (.ops [.mk (some 4) none (.p (.move (.lit (.bool false))))])
  (.seq (.seq (.ops [.mk (some 26) none (.call (.lit (.func 11 [])) []), .mk (some 27) none (.p (.not (.tmp 26)))])
  (.cond (.tmp 27)
  (.seq (.ops [.mk (some 4) none (.p (.move (.lit (.bool false))))])
  .ret)
  .skip))
  (.seq (.seq (.ops [.mk (some 28) none (.p (.move (.tmp 0))), .mk (some 29) none (.call (.lit (.func 12 [])) [.tmp 28]), .mk (some 30) none (.p (.not (.tmp 29)))])
  (.cond (.tmp 30)
  (.seq (.ops [.mk (some 4) none (.p (.move (.lit (.bool true))))])
  .ret)
  .skip))
  (.seq (.ops [.mk (some 31) none (.p (.build [.int IntKind.i64 0] [(0, 1, .lit (.int IntKind.i64 500))])), .mk (some 32) none (.a (.box 47 (.tmp 31))), .mk (some 5) none (.p (.move (.tmp 32)))])
  (.seq (.ops [.mk (some 33) none (.p (.move (.tmp 5))), .mk (some 34) none (.p (.move (.tmp 1))), .mk (some 35) none (.p (.move (.tmp 0))), .mk (some 36) none (.p (.build [.int IntKind.i64 0, .int IntKind.i64 0, .nils] [(0, 1, .lit (.int IntKind.i64 13)), (1, 1, .tmp 34), (2, 1, .tmp 35)])), .mk (some 37) none (.a (.buildS [.str [], .str [], .str []] 3 [(0, 1, .lit (.str [120])), (1, 1, .lit (.str [121])), (2, 1, .lit (.str [122]))])), .mk (some 38) none (.call (.lit (.func 21 [])) [.tmp 33, .tmp 36, .tmp 37]), .mk (some 6) none (.a (.newc 28 [.int IntKind.i64 0, .str [], .nils, .nils])), .mk none none (.w (.store 4 (.tmp 6) (.tmp 38)))])
  (.seq (.ops [.mk (some 39) none (.a (.buildS [.str [], .str [], .str []] 3 [(0, 1, .lit (.str [120])), (1, 1, .lit (.str [121])), (2, 1, .lit (.str [122]))])), .mk (some 40) none (.p (.loadn 4 (.tmp 6))), .mk (some 41) none (.a (.buildS [.int IntKind.i64 0, .str [], .nils, .nils] 1 [(0, 4, .tmp 40)])), .mk (some 42) none (.p (.build [.int IntKind.i64 0, .str [], .nils, .nils] [(0, 1, .lit (.int IntKind.i64 6)), (2, 1, .tmp 39), (3, 1, .tmp 41)])), .mk (some 7) none (.a (.newc 28 [.int IntKind.i64 0, .str [], .nils, .nils])), .mk none none (.w (.store 4 (.tmp 7) (.tmp 42)))])
  (.seq (.ops [.mk (some 43) none (.p (.build [.int IntKind.i64 0, .str [], .nils, .nils] [(0, 1, .lit (.int IntKind.i64 1)), (1, 1, .lit (.str [49]))])), .mk (some 44) none (.p (.build [.int IntKind.i64 0, .str [], .nils, .nils] [(0, 1, .lit (.int IntKind.i64 1)), (1, 1, .lit (.str [50, 50]))])), .mk (some 45) none (.p (.build [.int IntKind.i64 0, .str [], .nils, .nils] [(0, 1, .lit (.int IntKind.i64 3))])), .mk (some 8) none (.a (.newc 28 [.int IntKind.i64 0, .str [], .nils, .nils])), .mk (some 9) none (.a (.newc 28 [.int IntKind.i64 0, .str [], .nils, .nils])), .mk (some 10) none (.a (.newc 28 [.int IntKind.i64 0, .str [], .nils, .nils])), .mk none none (.w (.store 4 (.tmp 8) (.tmp 43))), .mk none none (.w (.store 4 (.tmp 9) (.tmp 44))), .mk none none (.w (.store 4 (.tmp 10) (.tmp 45)))])
  (.seq (.ops [.mk (some 46) none (.p (.loadn 4 (.tmp 7))), .mk (some 47) none (.p (.loadn 4 (.tmp 8))), .mk (some 48) none (.p (.loadn 4 (.tmp 9))), .mk (some 49) none (.p (.loadn 4 (.tmp 10))), .mk (some 50) none (.a (.buildS [.int IntKind.i64 0, .str [], .nils, .nils, .int IntKind.i64 0, .str [], .nils, .nils, .int IntKind.i64 0, .str [], .nils, .nils, .int IntKind.i64 0, .str [], .nils, .nils] 4 [(0, 4, .tmp 46), (4, 4, .tmp 47), (8, 4, .tmp 48), (12, 4, .tmp 49)])), .mk (some 51) none (.p (.build [.int IntKind.i64 0, .str [], .nils, .nils] [(0, 1, .lit (.int IntKind.i64 7)), (3, 1, .tmp 50)])), .mk (some 11) none (.a (.newc 28 [.int IntKind.i64 0, .str [], .nils, .nils])), .mk none none (.w (.store 4 (.tmp 11) (.tmp 51)))])
  (.seq (.ops [.mk (some 52) none (.p (.loadn 4 (.tmp 7))), .mk (some 53) none (.p (.loadn 4 (.tmp 8))), .mk (some 54) none (.a (.buildS [.int IntKind.i64 0, .str [], .nils, .nils, .int IntKind.i64 0, .str [], .nils, .nils] 2 [(0, 4, .tmp 52), (4, 4, .tmp 53)])), .mk (some 55) none (.p (.build [.int IntKind.i64 0, .str [], .nils, .nils] [(0, 1, .lit (.int IntKind.i64 7)), (3, 1, .tmp 54)])), .mk (some 56) none (.p (.loadn 4 (.tmp 9))), .mk (some 57) none (.p (.loadn 4 (.tmp 10))), .mk (some 58) none (.a (.buildS [.int IntKind.i64 0, .str [], .nils, .nils, .int IntKind.i64 0, .str [], .nils, .nils, .int IntKind.i64 0, .str [], .nils, .nils] 3 [(0, 4, .tmp 55), (4, 4, .tmp 56), (8, 4, .tmp 57)])), .mk (some 59) none (.p (.build [.int IntKind.i64 0, .str [], .nils, .nils] [(0, 1, .lit (.int IntKind.i64 7)), (3, 1, .tmp 58)])), .mk (some 12) none (.a (.newc 28 [.int IntKind.i64 0, .str [], .nils, .nils])), .mk none none (.w (.store 4 (.tmp 12) (.tmp 59)))])
  (.seq (.ops [.mk (some 60) none (.p (.loadn 4 (.tmp 7))), .mk (some 61) none (.p (.loadn 4 (.tmp 8))), .mk (some 62) none (.a (.buildS [.int IntKind.i64 0, .str [], .nils, .nils, .int IntKind.i64 0, .str [], .nils, .nils] 2 [(0, 4, .tmp 60), (4, 4, .tmp 61)])), .mk (some 63) none (.p (.build [.int IntKind.i64 0, .str [], .nils, .nils] [(0, 1, .lit (.int IntKind.i64 7)), (3, 1, .tmp 62)])), .mk (some 64) none (.p (.loadn 4 (.tmp 9))), .mk (some 65) none (.a (.buildS [.int IntKind.i64 0, .str [], .nils, .nils, .int IntKind.i64 0, .str [], .nils, .nils] 2 [(0, 4, .tmp 63), (4, 4, .tmp 64)])), .mk (some 66) none (.p (.build [.int IntKind.i64 0, .str [], .nils, .nils] [(0, 1, .lit (.int IntKind.i64 7)), (3, 1, .tmp 65)])), .mk (some 67) none (.p (.loadn 4 (.tmp 10))), .mk (some 68) none (.a (.buildS [.int IntKind.i64 0, .str [], .nils, .nils, .int IntKind.i64 0, .str [], .nils, .nils] 2 [(0, 4, .tmp 66), (4, 4, .tmp 67)])), .mk (some 69) none (.p (.build [.int IntKind.i64 0, .str [], .nils, .nils] [(0, 1, .lit (.int IntKind.i64 7)), (3, 1, .tmp 68)])), .mk (some 13) none (.a (.newc 28 [.int IntKind.i64 0, .str [], .nils, .nils])), .mk none none (.w (.store 4 (.tmp 13) (.tmp 69)))])
  (.seq (.ops [.mk (some 71) none (.p (.loadn 4 (.tmp 11))), .mk (some 72) none (.call (.lit (.func 14 [])) [.tmp 71, .lit .nils, .lit (.int IntKind.i64 2000)]), .mk (some 70) none (.p (.move (.tmp 72))), .mk (some 73) none (.p (.extract (.tmp 70) 0)), .mk (some 74) none (.p (.extract (.tmp 70) 1)), .mk (some 75) none (.p (.extract (.tmp 70) 2)), .mk (some 14) none (.a (.newc 31 [.int IntKind.i64 0, .str [], .int IntKind.i64 0])), .mk none none (.w (.store 3 (.tmp 14) (.tmp 73))), .mk (some 15) none (.p (.move (.tmp 74))), .mk (some 16) none (.p (.move (.tmp 75)))])
  (.seq (.ops [.mk (some 77) none (.p (.loadn 4 (.tmp 12))), .mk (some 78) none (.call (.lit (.func 14 [])) [.tmp 77, .lit .nils, .lit (.int IntKind.i64 2001)]), .mk (some 76) none (.p (.move (.tmp 78))), .mk (some 79) none (.p (.extract (.tmp 76) 0)), .mk (some 80) none (.p (.extract (.tmp 76) 1)), .mk (some 81) none (.p (.extract (.tmp 76) 2)), .mk (some 17) none (.a (.newc 31 [.int IntKind.i64 0, .str [], .int IntKind.i64 0])), .mk none none (.w (.store 3 (.tmp 17) (.tmp 79))), .mk (some 18) none (.p (.move (.tmp 80))), .mk (some 19) none (.p (.move (.tmp 81)))])
  (.seq (.ops [.mk (some 83) none (.p (.loadn 4 (.tmp 13))), .mk (some 84) none (.call (.lit (.func 14 [])) [.tmp 83, .lit .nils, .lit (.int IntKind.i64 2002)]), .mk (some 82) none (.p (.move (.tmp 84))), .mk (some 85) none (.p (.extract (.tmp 82) 0)), .mk (some 86) none (.p (.extract (.tmp 82) 1)), .mk (some 87) none (.p (.extract (.tmp 82) 2)), .mk (some 20) none (.a (.newc 31 [.int IntKind.i64 0, .str [], .int IntKind.i64 0])), .mk none none (.w (.store 3 (.tmp 20) (.tmp 85))), .mk (some 21) none (.p (.move (.tmp 86))), .mk (some 22) none (.p (.move (.tmp 87)))])
  (.seq (.ops [.mk (some 89) none (.p (.loadn 4 (.tmp 7))), .mk (some 90) none (.p (.loadn 4 (.tmp 8))), .mk (some 91) none (.p (.loadn 4 (.tmp 9))), .mk (some 92) none (.a (.buildS [.int IntKind.i64 0, .str [], .nils, .nils, .int IntKind.i64 0, .str [], .nils, .nils, .int IntKind.i64 0, .str [], .nils, .nils] 3 [(0, 4, .tmp 89), (4, 4, .tmp 90), (8, 4, .tmp 91)])), .mk (some 93) none (.p (.build [.int IntKind.i64 0, .str [], .nils, .nils] [(0, 1, .lit (.int IntKind.i64 7)), (3, 1, .tmp 92)])), .mk (some 94) none (.call (.lit (.func 14 [])) [.tmp 93, .lit .nils, .lit (.int IntKind.i64 100)]), .mk (some 88) none (.p (.move (.tmp 94))), .mk (some 95) none (.p (.extract (.tmp 88) 0)), .mk (some 96) none (.p (.extract (.tmp 88) 1)), .mk (some 97) none (.p (.extract (.tmp 88) 2)), .mk (some 23) none (.a (.newc 31 [.int IntKind.i64 0, .str [], .int IntKind.i64 0])), .mk none none (.w (.store 3 (.tmp 23) (.tmp 95))), .mk (some 24) none (.p (.move (.tmp 96))), .mk (some 25) none (.p (.move (.tmp 97)))])
  (.seq (.ops [.mk (some 98) none (.p (.loadn 3 (.tmp 14))), .mk (some 99) none (.p (.loadn 3 (.tmp 17))), .mk (some 100) none (.p (.bin .eql (.many [(0, 1), (1, 2), (2, 1)]) (.tmp 98) (.tmp 99))), .mk (some 101) none (.p (.move (.tmp 100))), .mk (some 102) (some (101, true)) (.p (.loadn 3 (.tmp 17))), .mk (some 103) (some (101, true)) (.p (.loadn 3 (.tmp 20))), .mk (some 104) (some (101, true)) (.p (.bin .eql (.many [(0, 1), (1, 2), (2, 1)]) (.tmp 102) (.tmp 103))), .mk (some 105) none (.p (.pick (.tmp 101) (.tmp 104) (.lit (.bool false)))), .mk (some 106) none (.p (.move (.tmp 105))), .mk (some 107) (some (106, true)) (.p (.move (.tmp 18))), .mk (some 108) (some (106, true)) (.p (.move (.tmp 15))), .mk (some 109) (some (106, true)) (.p (.bin .add .none (.tmp 108) (.lit (.int IntKind.i64 1)))), .mk (some 110) (some (106, true)) (.p (.bin .eql .none (.tmp 107) (.tmp 109))), .mk (some 111) none (.p (.pick (.tmp 106) (.tmp 110) (.lit (.bool false)))), .mk (some 112) none (.p (.move (.tmp 111))), .mk (some 113) (some (112, true)) (.p (.move (.tmp 21))), .mk (some 114) (some (112, true)) (.p (.move (.tmp 15))), .mk (some 115) (some (112, true)) (.p (.bin .add .none (.tmp 114) (.lit (.int IntKind.i64 2)))), .mk (some 116) (some (112, true)) (.p (.bin .eql .none (.tmp 113) (.tmp 115))), .mk (some 117) none (.p (.pick (.tmp 112) (.tmp 116) (.lit (.bool false)))), .mk (some 118) none (.p (.move (.tmp 117))), .mk (some 119) (some (118, true)) (.p (.move (.tmp 16))), .mk (some 120) (some (118, true)) (.p (.move (.tmp 19))), .mk (some 121) (some (118, true)) (.p (.bin .eql .none (.tmp 119) (.tmp 120))), .mk (some 122) none (.p (.pick (.tmp 118) (.tmp 121) (.lit (.bool false)))), .mk (some 123) none (.p (.move (.tmp 122))), .mk (some 124) (some (123, true)) (.p (.move (.tmp 19))), .mk (some 125) (some (123, true)) (.p (.move (.tmp 22))), .mk (some 126) (some (123, true)) (.p (.bin .eql .none (.tmp 124) (.tmp 125))), .mk (some 127) none (.p (.pick (.tmp 123) (.tmp 126) (.lit (.bool false)))), .mk (some 128) none (.p (.move (.tmp 127))), .mk (some 129) (some (128, true)) (.p (.loadn 3 (.tmp 23))), .mk (some 130) (some (128, true)) (.p (.build [.int IntKind.i64 0, .str [], .int IntKind.i64 0] [(0, 1, .lit (.int IntKind.i64 1)), (1, 1, .lit (.str [35, 60, 102, 117, 110, 99, 116, 105, 111, 110, 62]))])), .mk (some 131) (some (128, true)) (.p (.bin .eql (.many [(0, 1), (1, 2), (2, 1)]) (.tmp 129) (.tmp 130))), .mk (some 132) none (.p (.pick (.tmp 128) (.tmp 131) (.lit (.bool false)))), .mk (some 4) none (.p (.move (.tmp 132)))])
  .ret))))))))))))))), [.tmp 4]⟩
theorem code9 (own : OwnT) (mode : FuncId → Nat) : (slimPrg Tryd.prog own mode).code 9 = some c9 := by kernel_rfl
end Go.Lite

/-
  The law NaturalApply.
-/
namespace Go.Lite
open Go Go.Proofs
set_option maxRecDepth 100000
set_option linter.unusedSimpArgs false
set_option linter.unusedVariables false

theorem call1_up {n : Nat} {f : FuncId} {ys : List AV} {H : Heap} {Q : AV → Heap → Prop} (h : Gives (call1 P5 n f ys H) Q) : Gives (call1 P6 n f ys H) Q := by
  have hr : RLe (call1 P5 n f ys H) (call1 P6 n f ys H) := by
    cases n with
    | zero => exact RLe.none
    | succ m =>
      cases hc : P5.code f with
      | none =>
        rw [show call1 P5 (m + 1) f ys H = none by simp only [call1, hc]]
        exact RLe.none
      | some sf =>
        have hc6 : P6.code f = some sf := hc
        rw [show call1 P5 (m + 1) f ys H = bif Nat.ble ys.length sf.nt then settled (sf.body.run (callN P5 m) m (initFr ys) H (finish sf.res)) else none by simp only [call1, hc], show call1 P6 (m + 1) f ys H = bif Nat.ble ys.length sf.nt then settled (sf.body.run (callN P6 m) m (initFr ys) H (finish sf.res)) else none by simp only [call1, hc6]]
        cases Nat.ble ys.length sf.nt with
        | false => exact RLe.none
        | true => exact settled_mono (code_mono (callN_mono m m (Nat.le_refl _) p56) (Nat.le_refl _) _ _ _ fun _ _ _ => RLe.refl)
  obtain ⟨v, H', e, q⟩ := h
  exact ⟨v, H', hr _ e, q⟩

theorem atomX_tame : oneX.tame ∧ twoX.tame ∧ nilX.tame := by
  refine ⟨⟨⟨⟨by simp, by simp⟩, fun _ => ⟨1, by decide, ?_⟩⟩, by simp, by simp, trivial⟩, ⟨⟨⟨by simp, by simp⟩, fun _ => ⟨22, by decide, ?_⟩⟩, by simp, by simp, trivial⟩, ⟨⟨⟨by simp, by simp⟩, fun h => absurd h (by decide)⟩, by simp, by simp, trivial⟩⟩
  · rw [show (1 : Int) = ((1 : Nat) : Int) from rfl, decZ_nonneg, decN_small (by omega)]
  · rw [show (22 : Int) = ((22 : Nat) : Int) from rfl, decZ_nonneg]
    exact (decN_of (d := [50, 50]) (by intro c hc; simp at hc; omega) (by simp) (by simp)).symm

theorem tame7 {l : List X} (hl : l.length ≤ 1000) (h : ∀ x ∈ l, x.tame) : (X.mk 7 [] [] l).tame := ⟨⟨⟨by simp, by simp⟩, fun h => absurd h (by decide)⟩, by simp, hl, (X.tames_iff l).2 h⟩
theorem lamX_tame {b : X} (h : b.tame) : (lamX b).tame := ⟨⟨⟨by simp, by simp⟩, fun h => absurd h (by decide)⟩, by simp, by simp, h, trivial⟩

set_option maxHeartbeats 16000000 in
theorem law9 (l : List Raw) (q : Int) (hl : l.length ≤ 9223372036854775807) (hf : Raw.fits l) : Ret P6 9 [vRaws l, .int .i64 q] (.bool true) := by
  have hargs : ∀ H, mapHM shutV [vRaws l, .int .i64 q] H = some ([vRaws l, .int .i64 q], H) := fun H => by simp -implicitDefEqProofs only [↓v_lenS, ZZ, Nat.reduceBEq, reduceIte, Nat.reduceAdd, Nat.reduceLeDiff, Nat.reduceEqDiff, Nat.reduceSub, Nat.reduceMul, Nat.reduceDiv, Nat.reduceBneDiff, XS, shutV_vRaws]
  by_cases hfew : sizeR 13 l ≤ 40
  case neg =>
    refine Ret.of rfl (code9 _ _) rfl rfl hargs (known11.and ((few11 l hl hf).up.and (Ev.ge 1)) |>.mono fun n hn H => ?_)
    obtain ⟨e11, e12, hn⟩ := hn
    rw [decide_eq_false hfew] at e12
    simp -implicitDefEqProofs only [c9, ↓v_lenS, ZZ, Nat.reduceBEq, reduceIte, Nat.reduceAdd, Nat.reduceLeDiff, Nat.reduceEqDiff, Nat.reduceSub, Nat.reduceMul, Nat.reduceDiv, Nat.reduceBneDiff, CM, shutV_vRaws, e11, e12, Ends, gives_ret]
    exact ⟨_, rfl⟩
  have hcnt := few_cnt 13 l hfew
  obtain ⟨b, m', g1, g2, g3, g4⟩ := make30 (.mk 13 q l) ⟨hl, hf⟩ [[120], [121], [122]] 500 (by simp) (by simp) (by rw [Raw.cnt]; omega)
  have hm' : m' ≤ 900 := by rw [Raw.cnt] at g3; omega
  have htb : b.tame := good_tame b _ 500 m' g1 hm' (by intro s hs; simp only [List.mem_cons, List.not_mem_nil, or_false] at hs; rcases hs with rfl | rfl | rfl <;> decide)
  have hwb : b.wf := right_wf b (good_right b _ 500 m' g1)
  obtain ⟨t1, t2, t3⟩ := atomX_tame
  have tl := lamX_tame htb
  have ta : (allX b).tame := tame7 (by simp) (by simp [tl, t1, t2, t3])
  have tb : (byX b).tame := tame7 (by simp) (by
    intro x hx
    simp only [List.mem_cons, List.not_mem_nil, or_false] at hx
    rcases hx with rfl | rfl | rfl
    · exact tame7 (by simp) (by simp [tl, t1])
    · exact t2
    · exact t3)
  have tc : (eachX b).tame := tame7 (by simp) (by
    intro x hx
    simp only [List.mem_cons, List.not_mem_nil, or_false] at hx
    rcases hx with rfl | rfl
    · refine tame7 (by simp) ?_
      intro x hx
      simp only [List.mem_cons, List.not_mem_nil, or_false] at hx
      rcases hx with rfl | rfl
      · exact tame7 (by simp) (by simp [tl, t1])
      · exact t2
    · exact t3)
  have td : (fewX b).tame := tame7 (by simp) (by simp [tl, t1, t2])
  have hwa : (allX b).wf := by
    simp [allX, lamX, oneX, twoX, nilX, X.wf, X.wfs, hwb]
  obtain ⟨o, ho, go⟩ := outA_total (allX b) hwa [] 2000 (deep 2000 + 4) (by omega)
  obtain ⟨h2, h3⟩ := by_out (by omega) ho
  obtain ⟨sf, h4⟩ := few_out b 1
  have e1 := eval_told ta 2000 2000 rfl (by omega) ho
  have e2 := eval_told tb 2001 2001 rfl (by omega) h2
  have e3 := eval_told tc 2002 2002 rfl (by omega) h3
  have e4 := eval_told td 100 100 rfl (by omega) h4
  obtain ⟨s1, s2, s3, s4⟩ := sh_told o 1 0
  rw [s1, s2, s3, s4, Nat.add_zero] at e2
  obtain ⟨s1, s2, s3, s4⟩ := sh_told o 2 0
  rw [s1, s2, s3, s4, Nat.add_zero] at e3
  simp only [O.kind, O.txt] at e4
  have hs := good_kind go
  have hss : o.st.steps ≤ 2001 := by
    rcases Classical.em (o.kind = 6) with h | h
    · have := hs.1 h; omega
    · have := hs.2 h; omega
  have hw1 : IntKind.i64.wrap ((o.st.steps : Int) + 1) = ((o.st.steps + 1 : Nat) : Int) := by
    rw [wrap64 (by omega) (by omega)]; omega
  have hw2 : IntKind.i64.wrap ((o.st.steps : Int) + 2) = ((o.st.steps + 2 : Nat) : Int) := by
    rw [wrap64 (by omega) (by omega)]; omega
  obtain ⟨kb, bt, nb, lb⟩ := b
  simp only [allX, byX, eachX, fewX, lamX, oneX, twoX, nilX, X.v_mk, vXs, vList_cons, vList_nil, List.flatMap_cons, List.flatMap_nil, List.length_cons, List.length_nil, X.cells_mk, List.cons_append, List.nil_append, List.append_nil, vStrs, vStrs_nil, str1, Nat.reduceAdd] at e1 e2 e3 e4
  simp only [show ∀ l : List X, vList true 4 X.cells l = vXs l from fun _ => rfl, show ∀ l : List Str, vList true 1 str1 l = vStrs l from fun _ => rfl] at e1 e2 e3 e4
  refine Ret.of rfl (code9 _ _) rfl rfl hargs (known11.and ((few11 l hl hf).up.and (g4.and (Ev.ge 1))) |>.mono fun n hn H => ?_)
  obtain ⟨e11, e12, e21, hn⟩ := hn
  obtain ⟨n, rfl⟩ : ∃ k, n = k + 1 := ⟨n - 1, by omega⟩
  rw [decide_eq_true hfew] at e12
  have lowb : HLow (H.bare.push (.row [.int .i64 500] 0 false (some 47))) := HLow.bare.push
  have hsoft : ∀ H, softV (.lst 1 3 true [.str [120], .str [121], .str [122]]) H = some (vStrs [[120], [121], [122]], H) := fun H => rfl
  have hvs : vStrs [[120], [121], [122]] = .lst 1 3 false [.str [120], .str [121], .str [122]] := rfl
  have low1 : HLow ((H.bare.push (.row [.int .i64 500] 0 false (some 47))).push (.row [.str [120], .str [121], .str [122]] 0 true none)) := lowb.push
  have g0 : ((H.bare.push (.row [.int .i64 500] 0 false (some 47))).push (.row [.str [120], .str [121], .str [122]] 0 true none)).t.get 0 = some (.row [.int .i64 (500 : Nat)] 0 false (some 47)) := by
    simp -implicitDefEqProofs only [↓v_lenS, ZZ, Nat.reduceBEq, reduceIte, Nat.reduceAdd, Nat.reduceLeDiff, Nat.reduceEqDiff, Nat.reduceSub, Nat.reduceMul, Nat.reduceDiv, Nat.reduceBneDiff]; rfl
  have hcall := call1_up (e21 _ 0 (some 47) low1 g0)
  rw [Raw.cells_mk] at hcall
  simp -implicitDefEqProofs only [c9, ↓v_lenS, ZZ, Nat.reduceBEq, reduceIte, Nat.reduceAdd, Nat.reduceLeDiff, Nat.reduceEqDiff, Nat.reduceSub, Nat.reduceMul, Nat.reduceDiv, Nat.reduceBneDiff, CM, XS, shutV_vRaws, fl_vRaws, len_vRaws, shutC_vRaws, e11, e12, hsoft]
  unfold Ends
  refine gives_call hcall ?_
  rintro v H' ⟨rfl, gk, kp⟩
  have low' := kp.low low1
  simp -implicitDefEqProofs only [↓v_lenS, ZZ, Nat.reduceBEq, reduceIte, Nat.reduceAdd, Nat.reduceLeDiff, Nat.reduceEqDiff, Nat.reduceSub, Nat.reduceMul, Nat.reduceDiv, Nat.reduceBneDiff, CM, XS, call14s, shutC_sl, shutRow_row, mapHM_cons, mapHM_nil, Cap.es, Cap.full, e1, e2, e3, e4, hw1, hw2, beq_self_eq_true, Int.reduceBEq, gives_ret]
  exact ⟨_, rfl⟩

end Go.Lite

/- The row of the law NaturalApply, and its card: what its call does, from the interpreter's run; what it lists, tied to the program's text. -/
namespace Go.Proofs.YtmfdlglhngmacaaDoor.naturalApply
open Go.ChangeShapes Go.WideShapes Go.ChangeAt Go.RowKit Go.Lite
open Go.ChangeMaps (open_string shut_string)
set_option linter.unusedVariables false
set_option maxRecDepth 100000
theorem own : ownKnob Tryd.prog.godebug = none := by kernel_rfl
theorem laidOut : laidOutB Tryd.prog = true := by kernel_rfl
theorem laid_met (os : Os) : laidMet Tryd.prog Rows.naturalApplyRow.laid ((laidWorld Tryd.prog os [(2, Rows.laid_math_bits_deBruijn32tab), (3, Rows.laid_math_bits_deBruijn64tab), (0, Rows.laid_internal_strconv_uint64pow10)]).forCall (fun _ _ => 0) ⟨#[], #[.slice none 0 0, .int .i64 0], []⟩).memory :=
  laidMet_of_run' 8 (by kernel_rfl) (by kernel_rfl)
theorem lifted (os : Os) (started : os.Started) (H : Type) (enc : TypeId × Value → H) :
    ReturnsInHanded {} Tryd.checked os 9 .any (fun w args => (Rows.naturalApplySpec.pre enc Tryd.prog Tryd.f9 Rows.naturalApplyRow.domain false w args ∧ laidMet Tryd.prog Rows.naturalApplyRow.laid w) ∧ sizedMet enc Tryd.prog Tryd.f9 (OpenSpec.ofChange Rows.naturalApplySpec) false w args) (Rows.naturalApplySpec.post enc Tryd.prog Tryd.f9 false true false false) := by
  refine returns_laid (C := Tryd.checked) (X := fun w _ => laidMet Tryd.prog Rows.naturalApplyRow.laid w) own started (by kernel_rfl) Tryd.func9
    (ChangeSpec.witness_at (enc := enc) (C := Tryd.checked) (os := os) (X := fun w _ => laidMet Tryd.prog Rows.naturalApplyRow.laid w) false (laidWorld Tryd.prog os [(2, Rows.laid_math_bits_deBruijn32tab), (3, Rows.laid_math_bits_deBruijn64tab), (0, Rows.laid_internal_strconv_uint64pow10)]) #[.slice none 0 0, .int .i64 0] 8 rfl (by kernel_rfl) (by kernel_rfl) (by kernel_rfl) (by kernel_rfl) (by kernel_rfl) (laid_met os)) ?_
  intro W base args ds gs before hval0 hW hcnd hsz0 hsh hlx _
  have hsz : (DataW.weightsEach Tryd.prog (Tryd.f9.params.toList ++ Rows.naturalApplySpec.plain.varTypes Tryd.prog) (ds ++ gs)).all (· ≤ reachBytes) = true := hsz0
  have hval : ∀ (j : Nat) t v, Tryd.f9.params[j]? = some t → args[j]? = some v → Value.okWide Tryd.prog W .any base t v := hval0
  have hW' := hW
  obtain ⟨p, q, hA0, hV, rfl, hfz, hnd⟩ := hW
  have hA : DataW.TrodAll enc Tryd.prog W 0 (fun _ => true) true Tryd.f9.params.toList args.toList ds p := hA0
  rw [Tryd.params9] at hA hval hsz
  obtain ⟨v0, vs0, d0, ds0, p0, q0, hargs, rfl, rfl, h0, r0⟩ := trodAll_cons hA
  obtain ⟨v1, vs1, d1, ds1, p1, q1, rfl, rfl, rfl, h1, r1⟩ := trodAll_cons r0
  obtain ⟨rfl, rfl, rfl⟩ := trodAll_nil r1
  obtain rfl : args = #[v0, v1] := by cases args; simp_all
  obtain ⟨rfl, rfl⟩ := trodVars_none hV
  have k0 := h0
  have lt0 : ∀ x ∈ p0, x.block < W.heap.size := by obtain ⟨m, hm⟩ := k0; exact DataW.trod_lt m _ _ _ hm
  have o0 := (hval 0 22 v0 rfl rfl)
  obtain ⟨z0, n0, c0, rfl⟩ := okWide_slice Tryd.underlying22 o0
  obtain ⟨g0, y0⟩ := h0
  obtain ⟨a0, ⟨w0, x0⟩, e0⟩ := open_raws Tryd.underlying22 Tryd.underlying50 (by kernel_rfl) ⟨_, rfl, rfl, Tryd.underlying3, by kernel_rfl⟩ ⟨_, rfl, rfl, Tryd.underlying3, by kernel_rfl⟩ ⟨_, rfl, rfl, rfl, by kernel_rfl⟩ g0 (.slice z0 n0 c0) _ (by simpa [Value.cells] using y0)
  obtain ⟨a1, rfl, rfl, rfl, w1⟩ := open_int Tryd.underlying3 (hval 1 3 v1 rfl rfl) h1
  refine (calls_of_ret hsh (tab_of_laid hlx) (law9 _ a1 w0 x0) (by simp only [VRels]; exact ⟨_, _, rfl, e0, _, _, rfl, rfl, rfl⟩)).mono fun e W' ⟨he, bel⟩ => ?_
  subst he
  exact ⟨_, rfl, _, _, _, [], _, [], hW', trodAll_mk1 (shut_bool Tryd.underlying4 _), (trodAll_cons_mk (Below.trod laidOut (by kernel_rfl) (of_decide_eq_true (by kernel_rfl)) k0 bel lt0) (trodAll_cons_mk (shut_int Tryd.underlying3 w1) trodAll_mk0)), rfl, bel.frame _, fun h => by cases h⟩
theorem over : Rows.naturalApplyRow.holds Tryd.pinned (OpenSpec.ofChange Rows.naturalApplySpec) :=
  OpenClaim.holds_of_wide 9 Tryd.f9 rfl rfl rfl rfl rfl rfl rfl ⟨rfl, rfl, rfl, rfl, rfl⟩ rfl rfl rfl rfl rfl (by kernel_rfl) Tryd.func9 (by kernel_rfl)
    (of_decide_eq_true (by kernel_rfl)) (by unfold Func.isWrapper; first | (rw [if_pos (by decide +kernel)]; kernel_rfl) | (rw [if_neg (by decide +kernel)]; exact ⟨rfl, rfl⟩))
    (fun os started H enc _ => lifted os started H enc)
theorem card : Rows.NaturalApplyCardSaid :=
  Claim7.holds_tied_plain_at .later [] [.data, .data, .data] true (true, "06472ccc2e734025fb51c4dbe6afee2256fcaf741367e7b75c75ff11b22c96a1") true over (fun _ h => by cases h) (by kernel_rfl) (fun _ h => by cases h) naturalApply_row_tie rfl ⟨rfl, rfl⟩ (by kernel_rfl) (by first | rfl | decide)
    (fun f fn h1 h2 => by
      obtain rfl : f = 9 := Option.some.inj (h1.symm.trans (by kernel_rfl))
      obtain rfl : fn = Tryd.f9 := Option.some.inj (h2.symm.trans Tryd.func9)
      refine ⟨by kernel_rfl, fun j t hj => ?_⟩
      rw [Tryd.params9] at hj
      match j, hj with
      | 0, hj =>
        obtain rfl : t = 22 := by simpa using hj.symm
        exact (by kernel_rfl : Tryd.pinned.checked.prog.wantsStandIn 22 = false)
      | 1, hj =>
        obtain rfl : t = 3 := by simpa using hj.symm
        exact (by kernel_rfl : Tryd.pinned.checked.prog.wantsStandIn 3 = false)
      | j + 2, hj => simp at hj)
    (by kernel_rfl)
#print axioms card
end Go.Proofs.YtmfdlglhngmacaaDoor.naturalApply
namespace Go.Proofs.YtmfdlglhngmacaaDoor
/-- The card, under a short name, for the claim. -/
theorem naturalApply_holds : Rows.NaturalApplyCardSaid := naturalApply.card
end Go.Proofs.YtmfdlglhngmacaaDoor
