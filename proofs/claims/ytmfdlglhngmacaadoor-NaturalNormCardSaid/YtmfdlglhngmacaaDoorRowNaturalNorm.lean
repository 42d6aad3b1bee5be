/- The row of the law NaturalNorm, and its card: what its call does, from the interpreter's run; what it lists, tied to the program's text. -/
import Derived.Test.YtmfdlglhngmacaaDoorVO
import Derived.Test.YtmfdlglhngmacaaDoorVJ
import Derived.Test.YtmfdlglhngmacaaDoorVC
import Derived.Test.YtmfdlglhngmacaaDoorProg
import Derived.Test.YtmfdlglhngmacaaDoorVD
import Derived.Test.YtmfdlglhngmacaaDoorTie
import Derived.Test.YtmfdlglhngmacaaDoorCards
import Derived.WalkKit
import Derived.ProofKit
import Derived.OpenShut
import Derived.ShutString
import Derived.ChangeOld
import Derived.Below
import Derived.SizedLaws
import Derived.HandedShaped
import Derived.Carry
import Derived.SevenTiedAt

/-
  A term of the maker's, its arguments by name: it is well formed, small.
-/
namespace Go.Lite
open Go Go.Proofs
set_option maxRecDepth 100000
set_option linter.unusedSimpArgs false
set_option linter.unusedVariables false

theorem cl_of : ∀ e : X, e.right → (∀ j, e.no (pct j)) → Nor.cl e := X.indA fun k t ns l ih hr hn => by
  obtain ⟨h1, _, h3⟩ := hr
  rw [Nor.cl]
  refine ⟨fun h5 ⟨j, e⟩ => (hn j).1 h5 e, fun h10 hc => ?_, (Nor.cls_iff l).2 fun x hx => ih x hx ((rights_iff l).1 h3 x hx) fun j => (X.nos_iff _ l).1 (hn j).2 x hx⟩
  subst h10 hc
  have ha : arityX consP = 2 := by decide
  rcases h1 with ⟨h, _⟩ | ⟨h, _⟩ | ⟨h, _⟩ | ⟨h, _⟩ | ⟨h, _⟩ | ⟨h, _⟩ | ⟨h, _⟩ | ⟨h, _⟩ | ⟨h, _⟩ | ⟨_, _, h, _⟩
  all_goals first
    | (exact absurd h (by decide))
    | (rw [ha] at h; omega)

theorem pct_text (j : Nat) (hj : j ≤ 1000) : (pct j).length ≤ 1000 ∧ ∀ c ∈ pct j, c < 256 := by
  have := numT_len j
  refine ⟨by rw [pct, List.length_append]; simp only [List.length_cons, List.length_nil]; omega, ?_⟩
  unfold pct numT
  intro c hc
  rcases List.mem_append.1 hc with hc | hc
  · simp only [List.mem_cons, List.not_mem_nil, or_false] at hc
    omega
  · by_cases h1 : j < 10 <;> by_cases h2 : j < 100 <;> simp only [h1, h2, if_true, if_false, List.mem_cons, List.not_mem_nil, or_false] at hc <;> omega

theorem varP_tame (j : Nat) (hj : j ≤ 1000) : (varX (pct j)).tame := ⟨⟨pct_text j hj, fun h => absurd h (by decide)⟩, by simp, by simp, trivial⟩
theorem bindP_tame {n : Str} {x y : X} (hx : x.tame) (hy : y.tame) : (bindX n x y).tame := ⟨⟨⟨by simp, by simp⟩, fun h => absurd h (by decide)⟩, by simp, by simp, hx, hy, trivial⟩
theorem bindAll_tame {b : X} (hb : b.tame) : ∀ (L : List (Str × X)), (∀ p ∈ L, p.2.tame) → (bindAll L b).tame
  | [], _ => hb
  | p :: L, h => bindP_tame (h p (by simp)) (bindAll_tame hb L fun q hq => h q (by simp [hq]))

theorem nrms_tame : ∀ (l : List X), (∀ x ∈ l, x.tame → ∀ c, (x.nrm c).2 ≤ 1000 → (x.nrm c).1.tame) → X.tames l → ∀ m i c, (X.nrms l m i c).2.2 ≤ 1000 → X.tames (X.nrms l m i c).1 ∧ ∀ p ∈ (X.nrms l m i c).2.1, p.2.tame
  | [], _, _, m, i, c, _ => ⟨trivial, by simp [X.nrms]⟩
  | x :: l, h, ht, m, i, c, hc => by
    rw [X.nrms] at hc ⊢
    by_cases hb : m ≤ i ∧ (x.nrm c).1.atom = false
    · rw [if_pos hb] at hc ⊢
      simp only [] at hc ⊢
      have h1 := nrms_le l m (i + 1) ((x.nrm c).2 + 1)
      obtain ⟨g1, g2⟩ := nrms_tame l (fun y hy => h y (by simp [hy])) ht.2 m (i + 1) _ hc
      refine ⟨⟨varP_tame _ (by omega), g1⟩, fun p hp => ?_⟩
      rcases List.mem_cons.1 hp with rfl | hp
      · exact h x (by simp) ht.1 c (by omega)
      · exact g2 p hp
    · rw [if_neg hb] at hc ⊢
      simp only [] at hc ⊢
      have h1 := nrms_le l m (i + 1) (x.nrm c).2
      obtain ⟨g1, g2⟩ := nrms_tame l (fun y hy => h y (by simp [hy])) ht.2 m (i + 1) _ hc
      exact ⟨⟨h x (by simp) ht.1 c (by omega), g1⟩, g2⟩

theorem nrm_tame : ∀ x : X, x.tame → ∀ c, (x.nrm c).2 ≤ 1000 → (x.nrm c).1.tame := X.indA fun k t ns a ih ht c hc => by
  rw [X.tame] at ht
  obtain ⟨t0, t1, t2, t3⟩ := ht
  rw [X.nrm] at hc ⊢
  obtain ⟨g1, g2⟩ := nrms_tame a ih t3 _ _ _ hc
  refine bindAll_tame ?_ _ g2
  rw [X.tame, nrms_len]
  exact ⟨t0, t1, t2, g1⟩

/-- what is known of a term that was made, its arguments by name -/
structure Normed (e : X) : Prop where
  fit : e.fit
  cnt : (e.nrm 0).2 < 100
  cl : Nor.cl e
  wf : (e.nrm 0).1.wf
  tame : (e.nrm 0).1.tame

theorem pct_vdot (i j : Nat) : vdot i ≠ pct j := fun e => by
  have := congrArg (fun l : Str => l[0]?) e
  simp [vdot, pct] at this

theorem normed_of {e : X} {m' : Nat} (h : e.good [] 0 m') (h2 : e.nodes ≤ 41) (hm : m' < 100) : Normed e := by
  have me := made_of h hm
  have hr := good_right e [] 0 m' h
  have ht := thick_le e
  have hc : (e.nrm 0).2 < 100 := by rw [nrm_count]; omega
  exact ⟨good_fit e [] 0 m' h (by omega), hc, cl_of e hr fun j => me.no _ fun i => pct_vdot i j, right_wf _ (nrm_right e hr 0), nrm_tame e me.tame 0 (by omega)⟩

theorem few_norm (l : List Raw) (hl : l.length ≤ 9223372036854775807) (hf : Raw.fits l) (h : sizeR 13 l ≤ 40) : ∃ e : X, Made e ∧ Normed e ∧ Ret P6 13 [vRaws l] e.v := by
  obtain ⟨e, m', h1, h2, h3, h4⟩ := term12 l hl hf (by rw [← few_cnt 13 l h]; exact h)
  exact ⟨e, made_of h1 h3, normed_of h1 h2 h3, h4.up⟩

end Go.Lite

/-
  The slimmed code of the functions, printed by program, and that it is what is computed from the program.
-/
namespace Go.Lite
open Go Go.Proofs
set_option maxRecDepth 100000
-- thunk/thunklaw10.NaturalNorm
def c5 : SFunc := ⟨43, (.seq (.ops [.mk (some 2) none (.p (.move (.lit (.bool false))))])
  (.seq (.seq (.ops [.mk (some 10) none (.call (.lit (.func 11 [])) []), .mk (some 11) none (.p (.not (.tmp 10)))])
  (.cond (.tmp 11)
  (.seq (.ops [.mk (some 2) none (.p (.move (.lit (.bool false))))])
  .ret)
  .skip))
  (.seq (.seq (.ops [.mk (some 12) none (.p (.move (.tmp 0))), .mk (some 13) none (.call (.lit (.func 12 [])) [.tmp 12]), .mk (some 14) none (.p (.not (.tmp 13)))])
  (.cond (.tmp 14)
  (.seq (.ops [.mk (some 2) none (.p (.move (.lit (.bool true))))])
  .ret)
  .skip))
  (.seq (.ops [.mk (some 15) none (.p (.move (.tmp 0))), .mk (some 16) none (.call (.lit (.func 13 [])) [.tmp 15]), .mk (some 3) none (.a (.newc 28 [.int IntKind.i64 0, .str [], .nils, .nils])), .mk none none (.w (.store 4 (.tmp 3) (.tmp 16)))])
  (.seq (.ops [.mk (some 18) none (.p (.loadn 4 (.tmp 3))), .mk (some 19) none (.call (.lit (.func 14 [])) [.tmp 18, .lit .nils, .lit (.int IntKind.i64 1500)]), .mk (some 17) none (.p (.move (.tmp 19))), .mk (some 20) none (.p (.extract (.tmp 17) 0)), .mk (some 21) none (.p (.extract (.tmp 17) 1)), .mk (some 22) none (.p (.extract (.tmp 17) 2)), .mk (some 4) none (.a (.newc 31 [.int IntKind.i64 0, .str [], .int IntKind.i64 0])), .mk none none (.w (.store 3 (.tmp 4) (.tmp 20))), .mk (some 5) none (.p (.move (.tmp 21))), .mk (some 6) none (.p (.move (.tmp 22)))])
  (.seq (.ops [.mk (some 24) none (.p (.loadn 4 (.tmp 3))), .mk (some 25) none (.call (.lit (.func 18 [])) [.tmp 24]), .mk (some 26) none (.call (.lit (.func 14 [])) [.tmp 25, .lit .nils, .lit (.int IntKind.i64 5000)]), .mk (some 23) none (.p (.move (.tmp 26))), .mk (some 27) none (.p (.extract (.tmp 23) 0)), .mk (some 28) none (.p (.extract (.tmp 23) 1)), .mk (some 29) none (.p (.extract (.tmp 23) 2)), .mk (some 7) none (.a (.newc 31 [.int IntKind.i64 0, .str [], .int IntKind.i64 0])), .mk none none (.w (.store 3 (.tmp 7) (.tmp 27))), .mk (some 8) none (.p (.move (.tmp 28))), .mk (some 9) none (.p (.move (.tmp 29)))])
  (.seq (.ops [.mk (some 30) none (.p (.faddr 0 (.tmp 4))), .mk (some 31) none (.p (.load1 (.tmp 30))), .mk (some 32) none (.p (.bin .eql .none (.tmp 31) (.lit (.int IntKind.i64 6)))), .mk (some 33) none (.p (.move (.tmp 32))), .mk (some 34) (some (33, false)) (.p (.faddr 0 (.tmp 7))), .mk (some 35) (some (33, false)) (.p (.load1 (.tmp 34))), .mk (some 36) (some (33, false)) (.p (.bin .eql .none (.tmp 35) (.lit (.int IntKind.i64 6)))), .mk (some 37) none (.p (.pick (.tmp 33) (.lit (.bool true)) (.tmp 36))), .mk (some 38) none (.p (.move (.tmp 37))), .mk (some 39) (some (38, false)) (.p (.loadn 3 (.tmp 4))), .mk (some 40) (some (38, false)) (.p (.loadn 3 (.tmp 7))), .mk (some 41) (some (38, false)) (.p (.bin .eql (.many [(0, 1), (1, 2), (2, 1)]) (.tmp 39) (.tmp 40))), .mk (some 42) none (.p (.pick (.tmp 38) (.lit (.bool true)) (.tmp 41))), .mk (some 2) none (.p (.move (.tmp 42)))])
  .ret))))))), [.tmp 2]⟩
theorem code5 (own : OwnT) (mode : FuncId → Nat) : (slimPrg Tryd.prog own mode).code 5 = some c5 := by kernel_rfl
end Go.Lite

/-
  The law NaturalNorm.
-/
namespace Go.Lite
open Go Go.Proofs
set_option maxRecDepth 100000
set_option linter.unusedSimpArgs false
set_option linter.unusedVariables false

set_option maxHeartbeats 16000000 in
theorem law5 (l : List Raw) (hl : l.length ≤ 9223372036854775807) (hf : Raw.fits l) : Ret P6 5 [vRaws l] (.bool true) := by
  have hargs : ∀ H, mapHM shutV [vRaws l] H = some ([vRaws l], H) := fun H => by simp -implicitDefEqProofs only [↓v_lenS, ZZ, Nat.reduceBEq, reduceIte, Nat.reduceAdd, Nat.reduceLeDiff, Nat.reduceEqDiff, Nat.reduceBneDiff, XS, shutV_vRaws]
  by_cases hfew : sizeR 13 l ≤ 40
  case neg =>
    refine Ret.of rfl (code5 _ _) rfl rfl hargs (known11.and ((few11 l hl hf).up.and (Ev.ge 1)) |>.mono fun n hn H => ?_)
    obtain ⟨e11, e12, hn⟩ := hn
    rw [decide_eq_false hfew] at e12
    simp -implicitDefEqProofs only [c5, ↓v_lenS, ZZ, Nat.reduceBEq, reduceIte, Nat.reduceAdd, Nat.reduceLeDiff, Nat.reduceEqDiff, Nat.reduceBneDiff, CM, shutV_vRaws, e11, e12, Ends, gives_ret]
    exact ⟨_, rfl⟩
  obtain ⟨e, me, ne, e13⟩ := few_norm l hl hf hfew
  obtain ⟨o, ho, go⟩ := outA_total e me.wf [] 1500 (deep 5000) (by unfold deep; omega)
  obtain ⟨o', ho', go'⟩ := outA_total (e.nrm 0).1 ne.wf [] 5000 (deep 5000) (by unfold deep; omega)
  have e1 := eval_told me.tame 1500 1500 rfl (by omega) ho
  have e2 := eval_told ne.tame 5000 5000 rfl (by omega) ho'
  have v18 := (norm17 e ne.fit ne.cnt).up
  have key := Nor.norm_out ne.cl ho ho'
  generalize (e.nrm 0).1 = e' at e2 v18
  obtain ⟨ek, et, en, ea⟩ := e
  obtain ⟨fk, ft, fn, fa⟩ := e'
  rw [X.v_mk] at e1 e2 e13
  rw [X.v_mk, X.v_mk] at v18
  have hx : ∀ H, shutV (.agg [.int .i64 ek, .str et, vStrs en, vXs ea]) H = some (.agg [.int .i64 ek, .str et, vStrs en, vXs ea], H) := fun H => by simp -implicitDefEqProofs only [↓v_lenS, ZZ, Nat.reduceBEq, reduceIte, Nat.reduceAdd, Nat.reduceLeDiff, Nat.reduceEqDiff, Nat.reduceBneDiff, XS]
  have hx' : ∀ H, shutV (.agg [.int .i64 fk, .str ft, vStrs fn, vXs fa]) H = some (.agg [.int .i64 fk, .str ft, vStrs fn, vXs fa], H) := fun H => by simp -implicitDefEqProofs only [↓v_lenS, ZZ, Nat.reduceBEq, reduceIte, Nat.reduceAdd, Nat.reduceLeDiff, Nat.reduceEqDiff, Nat.reduceBneDiff, XS]
  refine Ret.of rfl (code5 _ _) rfl rfl hargs (known11.and ((few11 l hl hf).up.and (e13.and (v18.and (Ev.ge 1)))) |>.mono fun n hn H => ?_)
  obtain ⟨e11, e12, e13, v18, hn⟩ := hn
  obtain ⟨n, rfl⟩ : ∃ k, n = k + 1 := ⟨n - 1, by omega⟩
  rw [decide_eq_true hfew] at e12
  cases h6 : (o.kind == 6) with
  | true =>
    simp -implicitDefEqProofs only [c5, ↓v_lenS, ZZ, Nat.reduceBEq, reduceIte, Nat.reduceAdd, Nat.reduceLeDiff, Nat.reduceEqDiff, Nat.reduceBneDiff, CM, XS, shutV_vRaws, e11, e12, e13, v18, call14s, hx, hx', e1, e2, h6, Ends, gives_ret]
    exact ⟨_, rfl⟩
  | false =>
    cases h6' : (o'.kind == 6) with
    | true =>
      simp -implicitDefEqProofs only [c5, ↓v_lenS, ZZ, Nat.reduceBEq, reduceIte, Nat.reduceAdd, Nat.reduceLeDiff, Nat.reduceEqDiff, Nat.reduceBneDiff, CM, XS, shutV_vRaws, e11, e12, e13, v18, call14s, hx, hx', e1, e2, h6, h6', Ends, gives_ret]
      exact ⟨_, rfl⟩
    | false =>
      obtain ⟨k1, k2⟩ : o'.kind = o.kind ∧ o'.txt = o.txt := by
        rcases key with h | h | h
        · rw [h] at h6; exact absurd h6 (by decide)
        · rw [h] at h6'; exact absurd h6' (by decide)
        · exact h
      rw [k1, k2] at e2
      simp -implicitDefEqProofs only [c5, ↓v_lenS, ZZ, Nat.reduceBEq, reduceIte, Nat.reduceAdd, Nat.reduceLeDiff, Nat.reduceEqDiff, Nat.reduceBneDiff, CM, XS, shutV_vRaws, e11, e12, e13, v18, call14s, hx, hx', e1, e2, h6, beq_self_eq_true, Ends, gives_ret]
      exact ⟨_, rfl⟩

end Go.Lite

/- The row of the law NaturalNorm, and its card: what its call does, from the interpreter's run; what it lists, tied to the program's text. -/
namespace Go.Proofs.YtmfdlglhngmacaaDoor.naturalNorm
open Go.ChangeShapes Go.WideShapes Go.ChangeAt Go.RowKit Go.Lite
open Go.ChangeMaps (open_string shut_string)
set_option linter.unusedVariables false
set_option maxRecDepth 100000
theorem own : ownKnob Tryd.prog.godebug = none := by kernel_rfl
theorem laidOut : laidOutB Tryd.prog = true := by kernel_rfl
theorem laid_met (os : Os) : laidMet Tryd.prog Rows.naturalNormRow.laid ((laidWorld Tryd.prog os [(2, Rows.laid_math_bits_deBruijn32tab), (3, Rows.laid_math_bits_deBruijn64tab), (0, Rows.laid_internal_strconv_uint64pow10)]).forCall (fun _ _ => 0) ⟨#[], #[.slice none 0 0], []⟩).memory :=
  laidMet_of_run' 8 (by kernel_rfl) (by kernel_rfl)
theorem lifted (os : Os) (started : os.Started) (H : Type) (enc : TypeId × Value → H) :
    ReturnsInHanded {} Tryd.checked os 5 .any (fun w args => (Rows.naturalNormSpec.pre enc Tryd.prog Tryd.f5 Rows.naturalNormRow.domain false w args ∧ laidMet Tryd.prog Rows.naturalNormRow.laid w) ∧ sizedMet enc Tryd.prog Tryd.f5 (OpenSpec.ofChange Rows.naturalNormSpec) false w args) (Rows.naturalNormSpec.post enc Tryd.prog Tryd.f5 false true false false) := by
  refine returns_laid (C := Tryd.checked) (X := fun w _ => laidMet Tryd.prog Rows.naturalNormRow.laid w) own started (by kernel_rfl) Tryd.func5
    (ChangeSpec.witness_at (enc := enc) (C := Tryd.checked) (os := os) (X := fun w _ => laidMet Tryd.prog Rows.naturalNormRow.laid w) false (laidWorld Tryd.prog os [(2, Rows.laid_math_bits_deBruijn32tab), (3, Rows.laid_math_bits_deBruijn64tab), (0, Rows.laid_internal_strconv_uint64pow10)]) #[.slice none 0 0] 8 rfl (by kernel_rfl) (by kernel_rfl) (by kernel_rfl) (by kernel_rfl) (by kernel_rfl) (laid_met os)) ?_
  intro W base args ds gs before hval0 hW hcnd hsz0 hsh hlx _
  have hsz : (DataW.weightsEach Tryd.prog (Tryd.f5.params.toList ++ Rows.naturalNormSpec.plain.varTypes Tryd.prog) (ds ++ gs)).all (· ≤ reachBytes) = true := hsz0
  have hval : ∀ (j : Nat) t v, Tryd.f5.params[j]? = some t → args[j]? = some v → Value.okWide Tryd.prog W .any base t v := hval0
  have hW' := hW
  obtain ⟨p, q, hA0, hV, rfl, hfz, hnd⟩ := hW
  have hA : DataW.TrodAll enc Tryd.prog W 0 (fun _ => true) true Tryd.f5.params.toList args.toList ds p := hA0
  rw [Tryd.params5] at hA hval hsz
  obtain ⟨v0, vs0, d0, ds0, p0, q0, hargs, rfl, rfl, h0, r0⟩ := trodAll_cons hA
  obtain ⟨rfl, rfl, rfl⟩ := trodAll_nil r0
  obtain rfl : args = #[v0] := by cases args; simp_all
  obtain ⟨rfl, rfl⟩ := trodVars_none hV
  have k0 := h0
  have lt0 : ∀ x ∈ p0, x.block < W.heap.size := by obtain ⟨m, hm⟩ := k0; exact DataW.trod_lt m _ _ _ hm
  have o0 := (hval 0 22 v0 rfl rfl)
  obtain ⟨z0, n0, c0, rfl⟩ := okWide_slice Tryd.underlying22 o0
  obtain ⟨g0, y0⟩ := h0
  obtain ⟨a0, ⟨w0, x0⟩, e0⟩ := open_raws Tryd.underlying22 Tryd.underlying50 (by kernel_rfl) ⟨_, rfl, rfl, Tryd.underlying3, by kernel_rfl⟩ ⟨_, rfl, rfl, Tryd.underlying3, by kernel_rfl⟩ ⟨_, rfl, rfl, rfl, by kernel_rfl⟩ g0 (.slice z0 n0 c0) _ (by simpa [Value.cells] using y0)
  refine (calls_of_ret hsh (tab_of_laid hlx) (law5 _ w0 x0) (by simp only [VRels]; exact ⟨_, _, rfl, e0, rfl⟩)).mono fun e W' ⟨he, bel⟩ => ?_
  subst he
  exact ⟨_, rfl, _, _, _, [], _, [], hW', trodAll_mk1 (shut_bool Tryd.underlying4 _), (trodAll_cons_mk (Below.trod laidOut (by kernel_rfl) (of_decide_eq_true (by kernel_rfl)) k0 bel lt0) trodAll_mk0), rfl, bel.frame _, fun h => by cases h⟩
theorem over : Rows.naturalNormRow.holds Tryd.pinned (OpenSpec.ofChange Rows.naturalNormSpec) :=
  OpenClaim.holds_of_wide 5 Tryd.f5 rfl rfl rfl rfl rfl rfl rfl ⟨rfl, rfl, rfl, rfl, rfl⟩ rfl rfl rfl rfl rfl (by kernel_rfl) Tryd.func5 (by kernel_rfl)
    (of_decide_eq_true (by kernel_rfl)) (by unfold Func.isWrapper; first | (rw [if_pos (by decide +kernel)]; kernel_rfl) | (rw [if_neg (by decide +kernel)]; exact ⟨rfl, rfl⟩))
    (fun os started H enc _ => lifted os started H enc)
theorem card : Rows.NaturalNormCardSaid :=
  Claim7.holds_tied_plain_at .later [] [.data, .data, .data] true (true, "06472ccc2e734025fb51c4dbe6afee2256fcaf741367e7b75c75ff11b22c96a1") true over (fun _ h => by cases h) (by kernel_rfl) (fun _ h => by cases h) naturalNorm_row_tie rfl ⟨rfl, rfl⟩ (by kernel_rfl) (by first | rfl | decide)
    (fun f fn h1 h2 => by
      obtain rfl : f = 5 := Option.some.inj (h1.symm.trans (by kernel_rfl))
      obtain rfl : fn = Tryd.f5 := Option.some.inj (h2.symm.trans Tryd.func5)
      refine ⟨by kernel_rfl, fun j t hj => ?_⟩
      rw [Tryd.params5] at hj
      match j, hj with
      | 0, hj =>
        obtain rfl : t = 22 := by simpa using hj.symm
        exact (by kernel_rfl : Tryd.pinned.checked.prog.wantsStandIn 22 = false)
      | j + 1, hj => simp at hj)
    (by kernel_rfl)
#print axioms card
end Go.Proofs.YtmfdlglhngmacaaDoor.naturalNorm
namespace Go.Proofs.YtmfdlglhngmacaaDoor
/-- The card, under a short name, for the claim. -/
theorem naturalNorm_holds : Rows.NaturalNormCardSaid := naturalNorm.card
end Go.Proofs.YtmfdlglhngmacaaDoor
