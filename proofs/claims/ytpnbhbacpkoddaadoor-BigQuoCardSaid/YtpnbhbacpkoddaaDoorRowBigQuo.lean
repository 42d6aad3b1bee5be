/- The row of the law BigQuo, and its card: what its call does, from the interpreter's run; what it lists, tied to the program's text. -/
import Derived.Test.YtpnbhbacpkoddaaDoorQbC
import Derived.Test.YtpnbhbacpkoddaaDoorTie
import Derived.Test.YtpnbhbacpkoddaaDoorCards
import Derived.Test.YtpnbhbacpkoddaaDoorQbE
import Derived.WalkKit
import Derived.ProofKit
import Derived.OpenShut
import Derived.ShutString
import Derived.ChangeOld
import Derived.Below
import Derived.SizedLaws
import Derived.HandedShaped
import Derived.Carry
import Derived.SevenTiedAt

/- The row of the law BigQuo, and its card: what its call does, from the interpreter's run; what it lists, tied to the program's text. -/
namespace Go.Proofs.YtpnbhbacpkoddaaDoor.bigQuo
open Go.ChangeShapes Go.WideShapes Go.ChangeAt Go.RowKit Go.Lite
open Go.ChangeMaps (open_string shut_string)
set_option linter.unusedVariables false
set_option maxRecDepth 100000
theorem own : ownKnob Tryd.prog.godebug = none := by kernel_rfl
theorem laidOut : laidOutB Tryd.prog = true := by kernel_rfl
theorem laid_met (os : Os) : laidMet Tryd.prog Rows.bigQuoRow.laid ((laidWorld Tryd.prog os [(2, Rows.laid_math_bits_deBruijn32tab), (3, Rows.laid_math_bits_deBruijn64tab), (0, Rows.laid_internal_strconv_uint64pow10)]).forCall (fun _ _ => 0) ⟨#[], #[.slice none 0 0, .slice none 0 0, .bool false, .bool false], []⟩).memory :=
  laidMet_of_run' 8 (by kernel_rfl) (by kernel_rfl)
theorem lifted (os : Os) (started : os.Started) (H : Type) (enc : TypeId × Value → H) :
    ReturnsInHanded {} Tryd.checked os 8 .any (fun w args => (Rows.bigQuoSpec.pre enc Tryd.prog Tryd.f8 Rows.bigQuoRow.domain false w args ∧ laidMet Tryd.prog Rows.bigQuoRow.laid w) ∧ sizedMet enc Tryd.prog Tryd.f8 (OpenSpec.ofChange Rows.bigQuoSpec) false w args) (Rows.bigQuoSpec.post enc Tryd.prog Tryd.f8 false true false false) := by
  refine returns_laid (C := Tryd.checked) (X := fun w _ => laidMet Tryd.prog Rows.bigQuoRow.laid w) own started (by kernel_rfl) Tryd.func8
    (ChangeSpec.witness_at (enc := enc) (C := Tryd.checked) (os := os) (X := fun w _ => laidMet Tryd.prog Rows.bigQuoRow.laid w) false (laidWorld Tryd.prog os [(2, Rows.laid_math_bits_deBruijn32tab), (3, Rows.laid_math_bits_deBruijn64tab), (0, Rows.laid_internal_strconv_uint64pow10)]) #[.slice none 0 0, .slice none 0 0, .bool false, .bool false] 8 rfl (by kernel_rfl) (by kernel_rfl) (by kernel_rfl) (by kernel_rfl) (by kernel_rfl) (laid_met os)) ?_
  intro W base args ds gs before hval0 hW hcnd hsz0 hsh hlx _
  have hsz : (DataW.weightsEach Tryd.prog (Tryd.f8.params.toList ++ Rows.bigQuoSpec.plain.varTypes Tryd.prog) (ds ++ gs)).all (· ≤ reachBytes) = true := hsz0
  have hval : ∀ (j : Nat) t v, Tryd.f8.params[j]? = some t → args[j]? = some v → Value.okWide Tryd.prog W .any base t v := hval0
  have hW' := hW
  obtain ⟨p, q, hA0, hV, rfl, hfz, hnd⟩ := hW
  have hA : DataW.TrodAll enc Tryd.prog W 0 (fun _ => true) true Tryd.f8.params.toList args.toList ds p := hA0
  rw [Tryd.params8] at hA hval hsz
  obtain ⟨v0, vs0, d0, ds0, p0, q0, hargs, rfl, rfl, h0, r0⟩ := trodAll_cons hA
  obtain ⟨v1, vs1, d1, ds1, p1, q1, rfl, rfl, rfl, h1, r1⟩ := trodAll_cons r0
  obtain ⟨v2, vs2, d2, ds2, p2, q2, rfl, rfl, rfl, h2, r2⟩ := trodAll_cons r1
  obtain ⟨v3, vs3, d3, ds3, p3, q3, rfl, rfl, rfl, h3, r3⟩ := trodAll_cons r2
  obtain ⟨rfl, rfl, rfl⟩ := trodAll_nil r3
  obtain rfl : args = #[v0, v1, v2, v3] := by cases args; simp_all
  obtain ⟨rfl, rfl⟩ := trodVars_none hV
  have k0 := h0
  have lt0 : ∀ x ∈ p0, x.block < W.heap.size := by obtain ⟨m, hm⟩ := k0; exact DataW.trod_lt m _ _ _ hm
  have o0 := (hval 0 22 v0 rfl rfl)
  obtain ⟨z0, n0, c0, rfl⟩ := okWide_slice Tryd.underlying22 o0
  obtain ⟨g0, y0⟩ := h0
  obtain ⟨a0, w0, e0⟩ := open_ints Tryd.underlying22 Tryd.underlying3 (by kernel_rfl) (u := .slice z0 n0 c0) (by simpa [Value.cells] using y0)
  have k1 := h1
  have lt1 : ∀ x ∈ p1, x.block < W.heap.size := by obtain ⟨m, hm⟩ := k1; exact DataW.trod_lt m _ _ _ hm
  have o1 := (hval 1 22 v1 rfl rfl)
  obtain ⟨z1, n1, c1, rfl⟩ := okWide_slice Tryd.underlying22 o1
  obtain ⟨g1, y1⟩ := h1
  obtain ⟨a1, w1, e1⟩ := open_ints Tryd.underlying22 Tryd.underlying3 (by kernel_rfl) (u := .slice z1 n1 c1) (by simpa [Value.cells] using y1)
  obtain ⟨a2, rfl, rfl, rfl⟩ := open_bool Tryd.underlying4 (hval 2 4 v2 rfl rfl) h2
  obtain ⟨a3, rfl, rfl, rfl⟩ := open_bool Tryd.underlying4 (hval 3 4 v3 rfl rfl) h3
  refine (calls_of_ret hsh (tab_of_laid hlx) (law8 _ _ a0 a1 a2 a3 w0 w1) (by simp only [VRels]; exact ⟨_, _, rfl, e0, _, _, rfl, e1, _, _, rfl, rfl, _, _, rfl, rfl, rfl⟩)).mono fun e W' ⟨he, bel⟩ => ?_
  subst he
  exact ⟨_, rfl, _, _, _, [], _, [], hW', trodAll_mk1 (shut_bool Tryd.underlying4 _), (trodAll_cons_mk (Below.trod laidOut (by kernel_rfl) (of_decide_eq_true (by kernel_rfl)) k0 bel lt0) (trodAll_cons_mk (Below.trod laidOut (by kernel_rfl) (of_decide_eq_true (by kernel_rfl)) k1 bel lt1) (trodAll_cons_mk (shut_bool Tryd.underlying4 _) (trodAll_cons_mk (shut_bool Tryd.underlying4 _) trodAll_mk0)))), rfl, bel.frame _, fun h => by cases h⟩
theorem over : Rows.bigQuoRow.holds Tryd.pinned (OpenSpec.ofChange Rows.bigQuoSpec) :=
  OpenClaim.holds_of_wide 8 Tryd.f8 rfl rfl rfl rfl rfl rfl rfl ⟨rfl, rfl, rfl, rfl, rfl⟩ rfl rfl rfl rfl rfl (by kernel_rfl) Tryd.func8 (by kernel_rfl)
    (of_decide_eq_true (by kernel_rfl)) (by unfold Func.isWrapper; first | (rw [if_pos (by decide +kernel)]; kernel_rfl) | (rw [if_neg (by decide +kernel)]; exact ⟨rfl, rfl⟩))
    (fun os started H enc _ => lifted os started H enc)
theorem card : Rows.BigQuoCardSaid :=
  Claim7.holds_tied_plain_at .later [] [.data, .data, .data] true (true, "3f6c65230efcc366f875a5b532b9a48e131542a205115071931acd097d8d462f") false over (fun _ h => by cases h) (by kernel_rfl) (fun _ h => by cases h) bigQuo_row_tie rfl ⟨rfl, rfl⟩ (by kernel_rfl) (by first | rfl | decide)
    (fun f fn h1 h2 => by
      obtain rfl : f = 8 := Option.some.inj (h1.symm.trans (by kernel_rfl))
      obtain rfl : fn = Tryd.f8 := Option.some.inj (h2.symm.trans Tryd.func8)
      refine ⟨by kernel_rfl, fun j t hj => ?_⟩
      rw [Tryd.params8] at hj
      match j, hj with
      | 0, hj =>
        obtain rfl : t = 22 := by simpa using hj.symm
        exact (by kernel_rfl : Tryd.pinned.checked.prog.wantsStandIn 22 = false)
      | 1, hj =>
        obtain rfl : t = 22 := by simpa using hj.symm
        exact (by kernel_rfl : Tryd.pinned.checked.prog.wantsStandIn 22 = false)
      | 2, hj =>
        obtain rfl : t = 4 := by simpa using hj.symm
        exact (by kernel_rfl : Tryd.pinned.checked.prog.wantsStandIn 4 = false)
      | 3, hj =>
        obtain rfl : t = 4 := by simpa using hj.symm
        exact (by kernel_rfl : Tryd.pinned.checked.prog.wantsStandIn 4 = false)
      | j + 4, hj => simp at hj)
    (by kernel_rfl)
#print axioms card
end Go.Proofs.YtpnbhbacpkoddaaDoor.bigQuo
namespace Go.Proofs.YtpnbhbacpkoddaaDoor
/-- The card, under a short name, for the claim. -/
theorem bigQuo_holds : Rows.BigQuoCardSaid := bigQuo.card
end Go.Proofs.YtpnbhbacpkoddaaDoor
