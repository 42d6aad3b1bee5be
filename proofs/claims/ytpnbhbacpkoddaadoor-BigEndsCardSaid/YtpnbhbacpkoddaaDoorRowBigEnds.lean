/- The row of the law BigEnds, and its card: what its call does, from the interpreter's run; what it lists, tied to the program's text. -/
import Derived.Test.YtpnbhbacpkoddaaDoorQbC
import Derived.Test.YtpnbhbacpkoddaaDoorTie
import Derived.Test.YtpnbhbacpkoddaaDoorCards
import Derived.Test.YtpnbhbacpkoddaaDoorQbF
import Derived.WalkKit
import Derived.ProofKit
import Derived.OpenShut
import Derived.ShutString
import Derived.ChangeOld
import Derived.Below
import Derived.SizedLaws
import Derived.HandedShaped
import Derived.Carry
import Derived.SevenTiedAt

/- The row of the law BigEnds, and its card: what its call does, from the interpreter's run; what it lists, tied to the program's text. -/
namespace Go.Proofs.YtpnbhbacpkoddaaDoor.bigEnds
open Go.ChangeShapes Go.WideShapes Go.ChangeAt Go.RowKit Go.Lite
open Go.ChangeMaps (open_string shut_string)
set_option linter.unusedVariables false
set_option maxRecDepth 100000
theorem own : ownKnob Tryd.prog.godebug = none := by kernel_rfl
theorem laid_met (os : Os) : laidMet Tryd.prog Rows.bigEndsRow.laid ((laidWorld Tryd.prog os [(2, Rows.laid_math_bits_deBruijn32tab), (3, Rows.laid_math_bits_deBruijn64tab), (0, Rows.laid_internal_strconv_uint64pow10)]).forCall (fun _ _ => 0) ⟨#[], #[.int .i64 0, .bool false], []⟩).memory :=
  laidMet_of_run' 8 (by kernel_rfl) (by kernel_rfl)
theorem lifted (os : Os) (started : os.Started) (H : Type) (enc : TypeId × Value → H) :
    ReturnsInHanded {} Tryd.checked os 7 .any (fun w args => (Rows.bigEndsSpec.pre enc Tryd.prog Tryd.f7 Rows.bigEndsRow.domain false w args ∧ laidMet Tryd.prog Rows.bigEndsRow.laid w) ∧ sizedMet enc Tryd.prog Tryd.f7 (OpenSpec.ofChange Rows.bigEndsSpec) false w args) (Rows.bigEndsSpec.post enc Tryd.prog Tryd.f7 false true false false) := by
  refine returns_laid (C := Tryd.checked) (X := fun w _ => laidMet Tryd.prog Rows.bigEndsRow.laid w) own started (by kernel_rfl) Tryd.func7
    (ChangeSpec.witness_at (enc := enc) (C := Tryd.checked) (os := os) (X := fun w _ => laidMet Tryd.prog Rows.bigEndsRow.laid w) false (laidWorld Tryd.prog os [(2, Rows.laid_math_bits_deBruijn32tab), (3, Rows.laid_math_bits_deBruijn64tab), (0, Rows.laid_internal_strconv_uint64pow10)]) #[.int .i64 0, .bool false] 8 rfl (by kernel_rfl) (by kernel_rfl) (by kernel_rfl) (by kernel_rfl) (by kernel_rfl) (laid_met os)) ?_
  intro W base args ds gs before hval0 hW hcnd hsz0 hsh hlx _
  have hsz : (DataW.weightsEach Tryd.prog (Tryd.f7.params.toList ++ Rows.bigEndsSpec.plain.varTypes Tryd.prog) (ds ++ gs)).all (· ≤ reachBytes) = true := hsz0
  have hval : ∀ (j : Nat) t v, Tryd.f7.params[j]? = some t → args[j]? = some v → Value.okWide Tryd.prog W .any base t v := hval0
  have hW' := hW
  obtain ⟨p, q, hA0, hV, rfl, hfz, hnd⟩ := hW
  have hA : DataW.TrodAll enc Tryd.prog W 0 (fun _ => true) true Tryd.f7.params.toList args.toList ds p := hA0
  rw [Tryd.params7] at hA hval hsz
  obtain ⟨v0, vs0, d0, ds0, p0, q0, hargs, rfl, rfl, h0, r0⟩ := trodAll_cons hA
  obtain ⟨v1, vs1, d1, ds1, p1, q1, rfl, rfl, rfl, h1, r1⟩ := trodAll_cons r0
  obtain ⟨rfl, rfl, rfl⟩ := trodAll_nil r1
  obtain rfl : args = #[v0, v1] := by cases args; simp_all
  obtain ⟨rfl, rfl⟩ := trodVars_none hV
  obtain ⟨a0, rfl, rfl, rfl, w0⟩ := open_int Tryd.underlying3 (hval 0 3 v0 rfl rfl) h0
  obtain ⟨a1, rfl, rfl, rfl⟩ := open_bool Tryd.underlying4 (hval 1 4 v1 rfl rfl) h1
  refine (calls_of_ret hsh (tab_of_laid hlx) (law7 a0 a1) (by simp only [VRels]; exact ⟨_, _, rfl, rfl, _, _, rfl, rfl, rfl⟩)).mono fun e W' ⟨he, bel⟩ => ?_
  subst he
  exact ⟨_, rfl, _, _, _, [], _, [], hW', trodAll_mk1 (shut_bool Tryd.underlying4 _), (trodAll_cons_mk (shut_int Tryd.underlying3 w0) (trodAll_cons_mk (shut_bool Tryd.underlying4 _) trodAll_mk0)), rfl, bel.frame _, fun h => by cases h⟩
theorem over : Rows.bigEndsRow.holds Tryd.pinned (OpenSpec.ofChange Rows.bigEndsSpec) :=
  OpenClaim.holds_of_wide 7 Tryd.f7 rfl rfl rfl rfl rfl rfl rfl ⟨rfl, rfl, rfl, rfl, rfl⟩ rfl rfl rfl rfl rfl (by kernel_rfl) Tryd.func7 (by kernel_rfl)
    (of_decide_eq_true (by kernel_rfl)) (by unfold Func.isWrapper; first | (rw [if_pos (by decide +kernel)]; kernel_rfl) | (rw [if_neg (by decide +kernel)]; exact ⟨rfl, rfl⟩))
    (fun os started H enc _ => lifted os started H enc)
theorem card : Rows.BigEndsCardSaid :=
  Claim7.holds_tied_plain_at .later [] [.data, .data, .data] true (true, "3f6c65230efcc366f875a5b532b9a48e131542a205115071931acd097d8d462f") false over (fun _ h => by cases h) (by kernel_rfl) (fun _ h => by cases h) bigEnds_row_tie rfl ⟨rfl, rfl⟩ (by kernel_rfl) (by first | rfl | decide)
    (fun f fn h1 h2 => by
      obtain rfl : f = 7 := Option.some.inj (h1.symm.trans (by kernel_rfl))
      obtain rfl : fn = Tryd.f7 := Option.some.inj (h2.symm.trans Tryd.func7)
      refine ⟨by kernel_rfl, fun j t hj => ?_⟩
      rw [Tryd.params7] at hj
      match j, hj with
      | 0, hj =>
        obtain rfl : t = 3 := by simpa using hj.symm
        exact (by kernel_rfl : Tryd.pinned.checked.prog.wantsStandIn 3 = false)
      | 1, hj =>
        obtain rfl : t = 4 := by simpa using hj.symm
        exact (by kernel_rfl : Tryd.pinned.checked.prog.wantsStandIn 4 = false)
      | j + 2, hj => simp at hj)
    (by kernel_rfl)
#print axioms card
end Go.Proofs.YtpnbhbacpkoddaaDoor.bigEnds
namespace Go.Proofs.YtpnbhbacpkoddaaDoor
/-- The card, under a short name, for the claim. -/
theorem bigEnds_holds : Rows.BigEndsCardSaid := bigEnds.card
end Go.Proofs.YtpnbhbacpkoddaaDoor
