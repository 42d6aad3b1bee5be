/- The row of the law NaturalKnown, and its card: what its call does, from the interpreter's run; what it lists, tied to the program's text. -/
import Derived.Test.YtmfdlglhngmacaaGreatDoorUC
import Derived.Test.YtmfdlglhngmacaaGreatDoorProg
import Derived.Test.YtmfdlglhngmacaaGreatDoorUD
import Derived.Test.YtmfdlglhngmacaaGreatDoorUP
import Derived.Test.YtmfdlglhngmacaaGreatDoorUO
import Derived.Test.YtmfdlglhngmacaaGreatDoorTie
import Derived.Test.YtmfdlglhngmacaaGreatDoorCards
import Derived.WalkKit
import Derived.ProofKit
import Derived.OpenShut
import Derived.ShutString
import Derived.ChangeOld
import Derived.Below
import Derived.SizedLaws
import Derived.HandedShaped
import Derived.Carry
import Derived.SevenTiedAt

/-
  The slimmed code of the functions, printed by program, and that it is what is computed from the program.
-/
namespace Go.Lite
open Go Go.Proofs
set_option maxRecDepth 100000
-- thunk/thunklaw10.NaturalKnown
def c5 : SFunc := ⟨53, (.seq (.ops [oP 2 (.move (.lit (.bool false)))])
  (.seq (.seq (.ops [oC 11 7 ([]), oP 12 (.not (.tmp 11))])
  (.cond (.tmp 12)
  (.seq (.ops [oP 2 (.move (.lit (.bool false)))])
  .ret)
  .skip))
  (.seq (.ops [oA 13 (.buildS [.str [], .str [], .str [], .str [], .str [], .str [], .str [], .str [], .str [], .str [], .str [], .str [], .str [], .str [], .str [], .str [], .str [], .str [], .str [], .str [], .str [], .str [], .str [], .str [], .str [], .str [], .str [], .str [], .str [], .str []] 30 [(0, 1, .lit (.str [40, 43, 32, 50, 32, 51, 41])), (1, 1, .lit (.str [39, 40, 49, 32, 40, 50, 32, 35, 116, 41, 32, 97, 41])), (2, 1, .lit (.str [40, 99, 111, 110, 115, 32, 49, 32, 50, 41])), (3, 1, .lit (.str [40, 108, 97, 109, 98, 100, 97, 32, 40, 120, 41, 32, 120, 41])), (4, 1, .lit (.str [40, 99, 97, 114, 32, 39, 40, 41, 41])), (5, 1, .lit (.str [40, 43, 32, 49, 32, 39, 97, 41])), (6, 1, .lit (.str [40, 113, 117, 111, 116, 105, 101, 110, 116, 32, 55, 32, 48, 41])), (7, 1, .lit (.str [40, 101, 114, 114, 111, 114, 32, 39, 111, 111, 112, 115, 41])), (8, 1, .lit (.str [40, 108, 101, 116, 114, 101, 99, 32, 40, 40, 120, 32, 120, 41, 41, 32, 120, 41])), (9, 1, .lit (.str [40, 108, 101, 116, 114, 101, 99, 32, 40, 40, 120, 32, 40, 43, 32, 120, 32, 49, 41, 41, 41, 32, 120, 41])), (10, 1, .lit (.str [40, 40, 108, 97, 109, 98, 100, 97, 32, 40, 120, 32, 121, 41, 32, 120, 41, 32, 49, 32, 40, 101, 114, 114, 111, 114, 32, 50, 41, 41])), (11, 1, .lit (.str [40, 99, 97, 114, 32, 40, 99, 111, 110, 115, 32, 49, 32, 40, 101, 114, 114, 111, 114, 32, 50, 41, 41, 41])), (12, 1, .lit (.str [40, 115, 101, 113, 32, 40, 101, 114, 114, 111, 114, 32, 49, 41, 32, 50, 41])), (13, 1, .lit (.str [40, 40, 108, 97, 109, 98, 100, 97, 32, 40, 120, 32, 121, 41, 32, 40, 43, 32, 120, 32, 121, 41, 41, 32, 49, 41])), (14, 1, .lit (.str [40, 49, 32, 50, 41])), (15, 1, .lit (.str [40, 105, 102, 32, 39, 40, 41, 32, 49, 32, 50, 41])), (16, 1, .lit (.str [40, 105, 102, 32, 35, 102, 32, 49, 32, 50, 41])), (17, 1, .lit (.str [40, 108, 101, 116, 114, 101, 99, 32, 40, 40, 111, 110, 101, 115, 32, 40, 99, 111, 110, 115, 32, 49, 32, 111, 110, 101, 115, 41, 41, 41, 32, 40, 99, 97, 114, 32, 40, 99, 100, 114, 32, 40, 99, 100, 114, 32, 111, 110, 101, 115, 41, 41, 41, 41])), (18, 1, .lit (.str [40, 45, 32, 51, 32, 53, 41])), (19, 1, .lit (.str [40, 113, 117, 111, 116, 105, 101, 110, 116, 32, 45, 55, 32, 50, 41])), (20, 1, .lit (.str [40, 114, 101, 109, 97, 105, 110, 100, 101, 114, 32, 45, 55, 32, 50, 41])), (21, 1, .lit (.str [40, 101, 113, 63, 32, 39, 97, 32, 39, 97, 41])), (22, 1, .lit (.str [40, 101, 113, 63, 32, 39, 40, 49, 41, 32, 39, 40, 49, 41, 41])), (23, 1, .lit (.str [40, 60, 32, 50, 32, 49, 48, 41])), (24, 1, .lit (.str [40, 99, 111, 110, 115, 32, 49, 32, 40, 99, 111, 110, 115, 32, 50, 32, 51, 41, 41])), (25, 1, .lit (.str [40, 99, 100, 114, 32, 40, 99, 111, 110, 115, 32, 49, 32, 40, 101, 114, 114, 111, 114, 32, 39, 40, 50, 41, 41, 41, 41])), (26, 1, .lit (.str [105, 110, 112, 117, 116])), (27, 1, .lit (.str [40, 100, 101, 102, 105, 110, 101, 32, 40, 102, 32, 110, 41, 32, 40, 105, 102, 32, 40, 61, 32, 110, 32, 48, 41, 32, 49, 32, 40, 42, 32, 110, 32, 40, 102, 32, 40, 45, 32, 110, 32, 49, 41, 41, 41, 41, 41, 32, 40, 102, 32, 50, 48, 41])), (28, 1, .lit (.str [40, 40, 40, 108, 97, 109, 98, 100, 97, 32, 40, 120, 41, 32, 40, 108, 97, 109, 98, 100, 97, 32, 40, 121, 41, 32, 40, 45, 32, 120, 32, 121, 41, 41, 41, 32, 53, 41, 32, 51, 41])), (29, 1, .lit (.str [40, 110, 111, 116, 32, 53, 41]))]), oM 3 13])
  (.seq (.ops [oA 14 (.buildS [.str [], .str [], .str [], .str [], .str [], .str [], .str [], .str [], .str [], .str [], .str [], .str [], .str [], .str [], .str [], .str [], .str [], .str [], .str [], .str [], .str [], .str [], .str [], .str [], .str [], .str [], .str [], .str [], .str [], .str []] 30 [(0, 1, .lit (.str [49, 32, 53])), (1, 1, .lit (.str [49, 32, 40, 49, 32, 40, 50, 32, 35, 116, 41, 32, 97, 41])), (2, 1, .lit (.str [49, 32, 40, 49, 32, 46, 32, 50, 41])), (3, 1, .lit (.str [49, 32, 35, 60, 102, 117, 110, 99, 116, 105, 111, 110, 62])), (4, 1, .lit (.str [50, 32, 112, 97, 105, 114])), (5, 1, .lit (.str [50, 32, 110, 117, 109, 98, 101, 114])), (6, 1, .lit (.str [50, 32, 122, 101, 114, 111])), (7, 1, .lit (.str [50, 32, 101, 114, 114, 111, 114, 32, 111, 111, 112, 115])), (8, 1, .lit (.str [51, 32])), (9, 1, .lit (.str [51, 32])), (10, 1, .lit (.str [49, 32, 49])), (11, 1, .lit (.str [49, 32, 49])), (12, 1, .lit (.str [50, 32, 101, 114, 114, 111, 114, 32, 49])), (13, 1, .lit (.str [49, 32, 35, 60, 102, 117, 110, 99, 116, 105, 111, 110, 62])), (14, 1, .lit (.str [50, 32, 97, 112, 112, 108, 121])), (15, 1, .lit (.str [49, 32, 49])), (16, 1, .lit (.str [49, 32, 50])), (17, 1, .lit (.str [49, 32, 49])), (18, 1, .lit (.str [49, 32, 45, 50])), (19, 1, .lit (.str [49, 32, 45, 51])), (20, 1, .lit (.str [49, 32, 45, 49])), (21, 1, .lit (.str [49, 32, 35, 116])), (22, 1, .lit (.str [49, 32, 35, 102])), (23, 1, .lit (.str [49, 32, 35, 116])), (24, 1, .lit (.str [49, 32, 40, 49, 32, 50, 32, 46, 32, 51, 41])), (25, 1, .lit (.str [50, 32, 101, 114, 114, 111, 114])), (26, 1, .lit (.str [49, 32, 40, 52, 32, 45, 53, 41])), (27, 1, .lit (.str [49, 32, 50, 52, 51, 50, 57, 48, 50, 48, 48, 56, 49, 55, 54, 54, 52, 48, 48, 48, 48])), (28, 1, .lit (.str [49, 32, 50])), (29, 1, .lit (.str [49, 32, 35, 102]))]), oM 4 14])
  (.seq (.ops [oM 15 0, oM 16 3, oE 17 16, oC 18 11 ([.tmp 15, .tmp 17]), oM 5 18])
  (.seq (.ops [oM 20 3, oM 21 5, oP 22 (.iaddr 1 (.tmp 20) (.tmp 21)), oL 23 22, oC 24 15 ([.tmp 23]), oM 19 24, oP 25 (.extract (.tmp 19) 0), oP 26 (.extract (.tmp 19) 1), oA 6 (.newc 28 [.int .i64 0, .str [], .nils, .nils]), oS 4 6 25, oM 7 26])
  (.seq (.ops [oN 28 4 6, oA 29 (.buildS [.str [], .str []] 2 [(0, 1, .lit (.str [52])), (1, 1, .lit (.str [45, 53]))]), oC 30 12 ([.tmp 28, .tmp 29, .lit (.int .i64 2000)]), oM 27 30, oP 31 (.extract (.tmp 27) 0), oP 32 (.extract (.tmp 27) 1), oP 33 (.extract (.tmp 27) 2), oA 8 (.newc 34 [.int .i64 0, .str [], .int .i64 0]), oS 3 8 31, oM 9 32, oM 10 33])
  (.seq (.draw [oM 34 7, oM 35 34, oG 36 35 true (.faddr 0 (.tmp 8)), oG 37 35 true (.load1 (.tmp 36)), oG 44 35 true (.faddr 1 (.tmp 8)), oG 45 35 true (.load1 (.tmp 44)), oG 47 35 true (.move (.tmp 4)), oG 48 35 true (.move (.tmp 5)), oG 49 35 true (.iaddr 1 (.tmp 47) (.tmp 48)), oG 50 35 true (.load1 (.tmp 49))] [(.mk (some 38) (some (35, true)) (.call (.lit (.func 11 [])) [.tmp 37, .lit (.int .i64 10)]), [oG 45 35 true (.load1 (.tmp 44)), oG 50 35 true (.load1 (.tmp 49))], [oG 39 35 true (.bin .add .none (.lit (.int .i64 48)) (.tmp 38)), oG 40 35 true (.toInt .u8 (.tmp 39)), .mk (some 41) (some (35, true)) (.a (.buildS [.int .u8 0] 1 [(0, 1, .tmp 40)])), oG 42 35 true (.bytesStr (.tmp 41)), oG 43 35 true (.bin .add .none (.tmp 42) (.lit (.str [32]))), oG 46 35 true (.bin .add .none (.tmp 43) (.tmp 45)), oG 51 35 true (.bin .eql .none (.tmp 46) (.tmp 50)), oP 52 (.pick (.tmp 35) (.tmp 51) (.lit (.bool false))), oM 2 52])])
  .ret)))))))), [.tmp 2]⟩
theorem code5 (own : OwnT) (mode : FuncId → Nat) : (slimPrg Tryz.prog own mode).code 5 = some c5 := by kernel_rfl
end Go.Lite

/-
  The law NaturalKnown.
-/
namespace Go.Lite
open Go Go.Proofs
set_option maxRecDepth 100000
set_option linter.unusedSimpArgs false
set_option linter.unusedVariables false

theorem cz15 {n : Nat} {caps xs : List AV} {H : Heap} : callV (callN P6 n) (.func 15 caps) xs H = callS P6 n 15 (mapHM shutV (xs ++ caps) H) := callV_s rfl rfl
theorem numOk_short {t : Str} {z : Int} (h : decZ z = t) (hz : z.natAbs < 10 ^ 200) (hl : t.length ≤ 1000 ∧ ∀ c ∈ t, c < 256) : numOk 1 t := ⟨hl, fun _ => ⟨z, hz, h.symm⟩⟩
theorem in_ok : ∀ t ∈ ([[52], [45, 53]] : List Str), numOk 1 t := by
  intro t ht
  simp only [List.mem_cons, List.not_mem_nil, or_false] at ht
  rcases ht with rfl | rfl
  · exact numOk_short (z := 4) (by rw [← decK_eq (by decide)]; rfl) (by decide) (by decide)
  · exact numOk_short (z := -5) (by rw [← decK_eq (by decide)]; rfl) (by decide) (by decide)

theorem callK {e : X} (ht : e.tame) {kk : Int} {t : Str} (h : toldK 400 e [[52], [45, 53]] 2000 = some (kk, t)) : ∃ a b : Int, ∀ n H, callN P6 (n + 1) 12 [e.v, .lst 1 2 true [.str [52], .str [45, 53]], .int .i64 2000] H = some (.ret (.tuple [.agg [.int .i64 kk, .str t, .int .i64 0], .int .i64 a, .int .i64 b]), H) := by
  obtain ⟨o, ho, rfl, rfl⟩ := toldK_ok h
  refine ⟨o.st.steps, o.st.uses, fun n H => ?_⟩
  rw [callN_own (P := P6) (g := gEval) rfl, ← resV_eq]
  have e2 := eval14I e ht [[52], [45, 53]] in_ok (by decide) 2000 (by decide) ho H
  rw [← e2]
  have hs : shutV e.v H = some (e.v, H) := by
    obtain ⟨k, t, ns, l⟩ := e
    rw [X.v_mk]
    simp -implicitDefEqProofs only [XS, ↓v_lenS, ZZ, Nat.reduceBEq, reduceIte, Nat.reduceAdd, Nat.reduceLeDiff, Nat.reduceEqDiff, Nat.reduceBneDiff]
  have hm : ∀ n, gEvalN n [e.v, .lst 1 2 true [.str [52], .str [45, 53]], .int .i64 2000] H = gEvalN n [e.v, vStrs [[52], [45, 53]], .int .i64 (2000 : Nat)] H := by
    intro n
    unfold gEvalN
    have : mapHM shutV [e.v, .lst 1 2 true [.str [52], .str [45, 53]], .int .i64 2000] H = mapHM shutV [e.v, vStrs [[52], [45, 53]], .int .i64 (2000 : Nat)] H := by
      rw [mapHM_cons, mapHM_cons, hs]; rfl
    rw [this]
  show gEvalF (fun n => gEvalN n [e.v, .lst 1 2 true [.str [52], .str [45, 53]], .int .i64 2000] H) = gEvalF (fun n => gEvalN n [e.v, vStrs [[52], [45, 53]], .int .i64 (2000 : Nat)] H)
  rw [funext hm]

theorem want_short : (wantA.all fun v => match v with | .str s => decide (s.length ≤ 1000) | _ => true) = true := by kernel_rfl
theorem want_len {k : Nat} {s : Str} (h : (wantA.drop (k * 1)).take 1 = [.str s]) : s.length ≤ 1000 := by
  have hm : AV.str s ∈ wantA := List.mem_of_mem_drop (List.mem_of_mem_take (by rw [h]; exact List.mem_singleton.2 rfl))
  have := List.all_eq_true.1 want_short _ hm
  exact of_decide_eq_true this

set_option maxHeartbeats 16000000 in
theorem law5 (which : Int) : Ret P6 5 [.int .i64 which] (.bool true) := by
  obtain ⟨w0, w1⟩ := within_range which (b := 30) (by decide) (by decide)
  obtain ⟨k, hk⟩ : ∃ k : Nat, within which 30 = (k : Int) := ⟨(within which 30).toNat, by omega⟩
  have hk30 : k < 30 := by omega
  obtain ⟨s, w, e, kk, t, hd1, hd2, hof, htm, htd, h123, rfl⟩ := (known_all k hk30).told
  have eOf := ofK hof
  obtain ⟨a, b, eV⟩ := callK (tameK_ok e htm) htd
  have hkk : 0 ≤ kk ∧ kk < 10 := by omega
  have hwk : within kk 10 = kk := by
    rcases h123 with rfl | rfl | rfl <;> rfl
  refine Ret.of rfl (code5 _ _) rfl rfl (fun H => by simp -implicitDefEqProofs only [↓v_lenS, ZZ, Nat.reduceBEq, reduceIte, Nat.reduceAdd, Nat.reduceLeDiff, Nat.reduceEqDiff, Nat.reduceSub, Nat.reduceMul, Nat.reduceDiv, Nat.reduceBneDiff]) (known11.and ((run15 which ((30 : Nat) : Int) (by decide)).and ((run15 kk 10 (by decide)).and (eOf.and (Ev.ge 1)))) |>.mono fun n hn H => ?_)
  obtain ⟨e11, e15, e15', e16, hn⟩ := hn
  obtain ⟨n, rfl⟩ : ∃ k, n = k + 1 := ⟨n - 1, by omega⟩
  rw [show within which ((30 : Nat) : Int) = (k : Int) from hk] at e15
  rw [hwk] at e15'
  obtain ⟨kx, tx, nx, lx⟩ := e
  rw [X.v_mk] at e16
  simp only [X.v_mk] at eV
  obtain ⟨j, rfl⟩ : ∃ j : Nat, kk = j := ⟨kk.toNat, by omega⟩
  have hj : j < 10 := by omega
  have hw : IntKind.i64.wrap (48 + (j : Int)) = ((48 + j : Nat) : Int) := by rw [wrap64 (by omega) (by omega)]; omega
  have hw2 : IntKind.u8.wrap ((48 + j : Nat) : Int) = ((48 + j : Nat) : Int) := by
    have : ∀ n : Nat, n < 10 → IntKind.u8.wrap ((48 + n : Nat) : Int) = ((48 + n : Nat) : Int) := by decide
    exact this j hj
  have hb : bytesOf [AV.int .u8 ((48 + j : Nat) : Int)] = some [48 + j] := by
    have : ∀ n : Nat, n < 10 → bytesOf [AV.int .u8 ((48 + n : Nat) : Int)] = some [48 + n] := by decide
    exact this j hj
  rw [Int.toNat_natCast] at hd2
  clear h123
  have hlen : 2 + t.length ≤ 4611686018427387904 := by
    have := want_len hd2
    simp only [List.length_cons] at this
    omega
  simp -implicitDefEqProofs only [c5, ↓srcA_b, ↓wantA_b, ↓v_lenS, ZZ, Nat.reduceBEq, reduceIte, Nat.reduceAdd, Nat.reduceLeDiff, Nat.reduceEqDiff, Nat.reduceSub, Nat.reduceMul, Nat.reduceDiv, Nat.reduceBneDiff, CM, cz15, XS, e11, e15, e15', e16, hk30, hd1, hd2, eV, Ends, gives_ret, Int.reduceBEq, mapHM_cons, mapHM_nil, hw, hw2, hb, strOfBytes, List.cons_append, List.nil_append, beq_self_eq_true, hlen]
  exact ⟨_, rfl⟩

end Go.Lite

/- The row of the law NaturalKnown, and its card: what its call does, from the interpreter's run; what it lists, tied to the program's text. -/
namespace Go.Proofs.YtmfdlglhngmacaaGreatDoor.naturalKnown
open Go.ChangeShapes Go.WideShapes Go.ChangeAt Go.RowKit Go.Lite
open Go.ChangeMaps (open_string shut_string)
set_option linter.unusedVariables false
set_option maxRecDepth 100000
theorem own : ownKnob Tryz.prog.godebug = none := by kernel_rfl
theorem laid_met (os : Os) : laidMet Tryz.prog Rows.naturalKnownRow.laid ((laidWorld Tryz.prog os [(2, Rows.laid_math_bits_deBruijn32tab), (3, Rows.laid_math_bits_deBruijn64tab), (0, Rows.laid_internal_strconv_uint64pow10)]).forCall (fun _ _ => 0) ⟨#[], #[.int .i64 0], []⟩).memory :=
  laidMet_of_run' 8 (by kernel_rfl) (by kernel_rfl)
theorem lifted (os : Os) (started : os.Started) (H : Type) (enc : TypeId × Value → H) :
    ReturnsInHanded {} Tryz.checked os 5 .any (fun w args => (Rows.naturalKnownSpec.pre enc Tryz.prog Tryz.f5 Rows.naturalKnownRow.domain false w args ∧ laidMet Tryz.prog Rows.naturalKnownRow.laid w) ∧ sizedMet enc Tryz.prog Tryz.f5 (OpenSpec.ofChange Rows.naturalKnownSpec) false w args) (Rows.naturalKnownSpec.post enc Tryz.prog Tryz.f5 false true false false) := by
  refine returns_laid (C := Tryz.checked) (X := fun w _ => laidMet Tryz.prog Rows.naturalKnownRow.laid w) own started (by kernel_rfl) Tryz.func5
    (ChangeSpec.witness_at (enc := enc) (C := Tryz.checked) (os := os) (X := fun w _ => laidMet Tryz.prog Rows.naturalKnownRow.laid w) false (laidWorld Tryz.prog os [(2, Rows.laid_math_bits_deBruijn32tab), (3, Rows.laid_math_bits_deBruijn64tab), (0, Rows.laid_internal_strconv_uint64pow10)]) #[.int .i64 0] 8 rfl (by kernel_rfl) (by kernel_rfl) (by kernel_rfl) (by kernel_rfl) (by kernel_rfl) (laid_met os)) ?_
  intro W base args ds gs before hval0 hW hcnd hsz0 hsh hlx _
  have hsz : (DataW.weightsEach Tryz.prog (Tryz.f5.params.toList ++ Rows.naturalKnownSpec.plain.varTypes Tryz.prog) (ds ++ gs)).all (· ≤ reachBytes) = true := hsz0
  have hval : ∀ (j : Nat) t v, Tryz.f5.params[j]? = some t → args[j]? = some v → Value.okWide Tryz.prog W .any base t v := hval0
  have hW' := hW
  obtain ⟨p, q, hA0, hV, rfl, hfz, hnd⟩ := hW
  have hA : DataW.TrodAll enc Tryz.prog W 0 (fun _ => true) true Tryz.f5.params.toList args.toList ds p := hA0
  rw [Tryz.params5] at hA hval hsz
  obtain ⟨v0, vs0, d0, ds0, p0, q0, hargs, rfl, rfl, h0, r0⟩ := trodAll_cons hA
  obtain ⟨rfl, rfl, rfl⟩ := trodAll_nil r0
  obtain rfl : args = #[v0] := by cases args; simp_all
  obtain ⟨rfl, rfl⟩ := trodVars_none hV
  obtain ⟨a0, rfl, rfl, rfl, w0⟩ := open_int Tryz.underlying3 (hval 0 3 v0 rfl rfl) h0
  refine (calls_of_ret hsh (tab_of_laid hlx) (law5 a0) (by simp only [VRels]; exact ⟨_, _, rfl, rfl, rfl⟩)).mono fun e W' ⟨he, bel⟩ => ?_
  subst he
  exact ⟨_, rfl, _, _, _, [], _, [], hW', trodAll_mk1 (shut_bool Tryz.underlying4 _), (trodAll_cons_mk (shut_int Tryz.underlying3 w0) trodAll_mk0), rfl, bel.frame _, fun h => by cases h⟩
theorem over : Rows.naturalKnownRow.holds Tryz.pinned (OpenSpec.ofChange Rows.naturalKnownSpec) :=
  OpenClaim.holds_of_wide 5 Tryz.f5 rfl rfl rfl rfl rfl rfl rfl ⟨rfl, rfl, rfl, rfl, rfl⟩ rfl rfl rfl rfl rfl (by kernel_rfl) Tryz.func5 (by kernel_rfl)
    (of_decide_eq_true (by kernel_rfl)) (by unfold Func.isWrapper; first | (rw [if_pos (by decide +kernel)]; kernel_rfl) | (rw [if_neg (by decide +kernel)]; exact ⟨rfl, rfl⟩))
    (fun os started H enc _ => lifted os started H enc)
theorem card : Rows.NaturalKnownCardSaid :=
  Claim7.holds_tied_plain_at .later [] [.data, .data, .data] true (true, "3da4c160d97a7c4ab2323d69753ed077bd726e9de55bac15ab9e51916df506f2") true over (fun _ h => by cases h) (by kernel_rfl) (fun _ h => by cases h) naturalKnown_row_tie rfl ⟨rfl, rfl⟩ (by kernel_rfl) (by first | rfl | decide)
    (fun f fn h1 h2 => by
      obtain rfl : f = 5 := Option.some.inj (h1.symm.trans (by kernel_rfl))
      obtain rfl : fn = Tryz.f5 := Option.some.inj (h2.symm.trans Tryz.func5)
      refine ⟨by kernel_rfl, fun j t hj => ?_⟩
      rw [Tryz.params5] at hj
      match j, hj with
      | 0, hj =>
        obtain rfl : t = 3 := by simpa using hj.symm
        exact (by kernel_rfl : Tryz.pinned.checked.prog.wantsStandIn 3 = false)
      | j + 1, hj => simp at hj)
    (by kernel_rfl)
#print axioms card
end Go.Proofs.YtmfdlglhngmacaaGreatDoor.naturalKnown
namespace Go.Proofs.YtmfdlglhngmacaaGreatDoor
/-- The card, under a short name, for the claim. -/
theorem naturalKnown_holds : Rows.NaturalKnownCardSaid := naturalKnown.card
end Go.Proofs.YtmfdlglhngmacaaGreatDoor
