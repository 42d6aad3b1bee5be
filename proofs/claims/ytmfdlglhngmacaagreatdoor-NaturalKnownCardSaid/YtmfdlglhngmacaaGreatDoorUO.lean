/-
  Several texts in one: TTame, TLaw0, TRows, TLaid.
-/
import Derived.Test.YtmfdlglhngmacaaGreatDoorUN
import Derived.Test.YtmfdlglhngmacaaGreatDoorUL
import Derived.Test.YtmfdlglhngmacaaGreatDoorUK
import Derived.Test.YtmfdlglhngmacaaGreatDoorUE
import Derived.Test.YtmfdlglhngmacaaGreatDoorRows
import Derived.LaidLaws
import Derived.LaidSub
import Derived.Handed

set_option linter.unusedSimpArgs false
set_option linter.unusedVariables false
set_option linter.defProp false
set_option maxRecDepth 100000

/-
  What the maker makes is well formed, small; a name that is not there is not used.
-/
namespace Go.Lite
open Go Go.Proofs
end Go.Lite

/-
  The laws' ground: natural.Eval stands for its Lean function.
-/
namespace Go.Lite
open Go Go.Proofs
noncomputable def own6 (f : FuncId) : Option (List AV → Heap → R) := bif Nat.beq f 12 then some gEval else own5 f
noncomputable def P6 : Prg := slimPrg Tryz.prog own6 mode5
theorem cm7 {n : Nat} {caps xs : List AV} {H : Heap} : callV (callN P6 n) (.func 7 caps) xs H = callS P6 n 7 (mapHM shutV (xs ++ caps) H) := callV_s rfl rfl
theorem cm8 {n : Nat} {caps xs : List AV} {H : Heap} : callV (callN P6 n) (.func 8 caps) xs H = callS P6 n 8 (mapHM shutV (xs ++ caps) H) := callV_s rfl rfl
theorem cm9 {n : Nat} {caps xs : List AV} {H : Heap} : callV (callN P6 n) (.func 9 caps) xs H = callS P6 n 9 (mapHM shutV (xs ++ caps) H) := callV_s rfl rfl
theorem cm10 {n : Nat} {caps xs : List AV} {H : Heap} : callV (callN P6 n) (.func 10 caps) xs H = callS P6 n 10 (mapHM shutV (xs ++ caps) H) := callV_s rfl rfl
theorem cm11 {n : Nat} {caps xs : List AV} {H : Heap} : callV (callN P6 n) (.func 11 caps) xs H = callS P6 n 11 (mapHM shutV (xs ++ caps) H) := callV_s rfl rfl
theorem cm12 {n : Nat} {caps xs : List AV} {H : Heap} : callV (callN P6 n) (.func 12 caps) xs H = callN P6 n 12 (xs ++ caps) H := rfl
theorem cm13 {n : Nat} {caps xs : List AV} {H : Heap} : callV (callN P6 n) (.func 13 caps) xs H = callS P6 n 13 (mapHM shutV (xs ++ caps) H) := callV_s rfl rfl
theorem cm18 {n : Nat} {caps xs : List AV} {H : Heap} : callV (callN P6 n) (.func 18 caps) xs H = callS P6 n 18 (mapHM shutV (xs ++ caps) H) := callV_s rfl rfl
theorem cm19 {n : Nat} {caps xs : List AV} {H : Heap} : callV (callN P6 n) (.func 19 caps) xs H = callS P6 n 19 (mapHM shutV (xs ++ caps) H) := callV_s rfl rfl
theorem cm20 {n : Nat} {caps xs : List AV} {H : Heap} : callV (callN P6 n) (.func 20 caps) xs H = callS P6 n 20 (mapHM shutV (xs ++ caps) H) := callV_s rfl rfl
theorem cm21 {n : Nat} {caps xs : List AV} {H : Heap} : callV (callN P6 n) (.func 21 caps) xs H = call1S P6 n 21 (mapHM softV (xs ++ caps) H) := callV_1 rfl rfl
theorem cm22 {n : Nat} {caps xs : List AV} {H : Heap} : callV (callN P6 n) (.func 22 caps) xs H = call1S P6 n 22 (mapHM softV (xs ++ caps) H) := callV_1 rfl rfl
theorem cm37 {n : Nat} {caps xs : List AV} {H : Heap} : callV (callN P6 n) (.func 37 caps) xs H = callS P6 n 37 (mapHM shutV (xs ++ caps) H) := callV_s rfl rfl
theorem cm40 {n : Nat} {caps xs : List AV} {H : Heap} : callV (callN P6 n) (.func 40 caps) xs H = callS P6 n 40 (mapHM shutV (xs ++ caps) H) := callV_s rfl rfl
set_option linter.defProp false in
def CM := (And.intro (And.intro (And.intro @cm7 (And.intro @cm8 @cm9)) (And.intro (And.intro @cm10 @cm11) (And.intro @cm12 @cm13))) (And.intro (And.intro @cm18 (And.intro @cm19 @cm20)) (And.intro (And.intro @cm21 @cm22) (And.intro @cm37 @cm40))))
noncomputable def gEvalF (A : Nat → R) : R := open Classical in if h : ∃ o, Ev fun n => A n = some o then some h.choose else none
theorem run15 (a b : Int) (hb : b ≠ 0) : Ret P6 11 [.int .i64 a, .int .i64 b] (.int .i64 (within a b)) := by
  refine Ret.of rfl (code11 _ _) rfl rfl (fun H => by simp -implicitDefEqProofs only [↓v_lenS, ZZ, Nat.reduceBEq, reduceIte, Nat.reduceAdd, Nat.reduceLeDiff, Nat.reduceEqDiff, Nat.reduceBneDiff]) (Ev.of fun n H => ?_)
  unfold within
  by_cases h : a.tmod b < 0
  all_goals simp -implicitDefEqProofs only [c11, ↓v_lenS, ZZ, Nat.reduceBEq, reduceIte, Nat.reduceAdd, Nat.reduceLeDiff, Nat.reduceEqDiff, Nat.reduceBneDiff, if_neg, if_pos, hb, h, Ends, gives_ret]
  all_goals exact ⟨_, rfl⟩
noncomputable def evalV (v : AV) (z : Int) (H : Heap) : R := gEvalF fun k => opened H (noPanic (runE (callN P5 k) k [v, .lst 0 0 true [], .int .i64 z] H.bare))
theorem gEvalN_eq {k : Nat} {x : AV} {z : Int} {H : Heap} : gEvalN k [x, .nils, .int .i64 z] H = (shutV x H).bind fun q => opened q.2 (noPanic (runE (callN P5 k) k [q.1, .lst 0 0 true [], .int .i64 z] q.2.bare)) := by
  unfold gEvalN
  rw [mapHM_cons]
  cases shutV x H with
  | none => rfl
  | some q =>
    obtain ⟨v, H1⟩ := q
    simp -implicitDefEqProofs only [mapHM_cons, mapHM_nil, ↓v_lenS, ZZ, Nat.reduceBEq, reduceIte, Nat.reduceAdd, Nat.reduceLeDiff, Nat.reduceEqDiff, Nat.reduceBneDiff, Option.bind_some, List.length_cons, List.length_nil]
theorem gEvalF_none : gEvalF (fun _ => none) = none := by
  unfold gEvalF
  split
  · rename_i h
    obtain ⟨N, hN⟩ := h.choose_spec
    exact absurd (hN N (Nat.le_refl _)) (by simp)
  · rfl
theorem call14s {n : Nat} {x : AV} {z : Int} {H : Heap} : callN P6 (n + 1) 12 [x, .nils, .int .i64 z] H = (shutV x H).bind fun q => evalV q.1 z q.2 := by
  rw [callN_own (P := P6) (g := gEval) rfl]
  show gEvalF (fun n => gEvalN n [x, .nils, .int .i64 z] H) = _
  rw [show (fun n => gEvalN n [x, .nils, .int .i64 z] H) = fun n => (shutV x H).bind fun q => opened q.2 (noPanic (runE (callN P5 n) n [q.1, .lst 0 0 true [], .int .i64 z] q.2.bare)) from funext fun n => gEvalN_eq]
  cases shutV x H with
  | none => exact gEvalF_none
  | some q => rfl
theorem evalV_ok {e : X} (ht : e.tame) (F : Nat) (z : Int) (hz : z = F) (hF : F ≤ 1099511627776) {m : Nat} {o : O Str} (h : outA m e [] F = some o) (H : Heap) : evalV e.v z H = some (.ret (resV (resO o)), H) := by
  subst hz
  rw [← eval14 e ht F hF h H]
  show _ = gEvalF (fun n => gEvalN n [e.v, .nils, .int .i64 F] H)
  have hs : shutV e.v H = some (e.v, H) := by
    obtain ⟨k, t, ns, l⟩ := e
    rw [X.v_mk]
    simp -implicitDefEqProofs only [XS, ↓v_lenS, ZZ, Nat.reduceBEq, reduceIte, Nat.reduceAdd, Nat.reduceLeDiff, Nat.reduceEqDiff, Nat.reduceBneDiff]
  rw [show (fun n => gEvalN n [e.v, .nils, .int .i64 F] H) = fun n => opened H (noPanic (runE (callN P5 n) n [e.v, .lst 0 0 true [], .int .i64 F] H.bare)) from funext fun n => by rw [gEvalN_eq, hs]; rfl]
  rfl
theorem resV_eq (o : O Str) : resV (resO o) = .tuple [.agg [.int .i64 o.kind, .str o.txt, .int .i64 0], .int .i64 o.st.steps, .int .i64 o.st.uses] := by
  cases o <;> rfl
def fiveX : X := .mk 1 [53] [] []
theorem five_out : outA 3 fiveX [] 1 = some (.val [53] ⟨[.done (.atom 3 emptyT)], 1, 0⟩) := by
  unfold outA
  simp [fiveX, evalA_s, evalF, S.tick, constV, O.bind, printA_s, sayA, inputA, S.new]
theorem known11 : Ret P6 7 [] (.bool true) := by
  have ht : fiveX.tame := by
    rw [fiveX, X.tame]
    refine ⟨⟨⟨by simp, by simp⟩, fun _ => ⟨5, by decide, ?_⟩⟩, by simp, by simp, trivial⟩
    rw [show (5 : Int) = ((5 : Nat) : Int) from rfl, decZ_nonneg, decN_small (by omega)]
  have eV := evalV_ok ht 1 1 rfl (by omega) five_out
  rw [fiveX, X.v_mk, resV_eq] at eV
  simp only [O.kind, O.txt, O.st, show ((1 : Nat) : Int) = 1 from rfl, show ((0 : Nat) : Int) = 0 from rfl, show vStrs [] = .lst 0 0 true [] from rfl, show vXs [] = .lst 0 0 true [] from rfl] at eV
  refine Ret.of rfl (code7 _ _) rfl rfl (fun H => by simp -implicitDefEqProofs only [↓v_lenS, ZZ, Nat.reduceBEq, reduceIte, Nat.reduceAdd, Nat.reduceLeDiff, Nat.reduceEqDiff, Nat.reduceBneDiff]) ((Ev.ge 1).mono fun n hn H => ?_)
  obtain ⟨n, rfl⟩ : ∃ k, n = k + 1 := ⟨n - 1, by omega⟩
  simp -implicitDefEqProofs only [c7, ↓v_lenS, ZZ, Nat.reduceBEq, reduceIte, Nat.reduceAdd, Nat.reduceLeDiff, Nat.reduceEqDiff, Nat.reduceBneDiff, CM, call14s, eV, Ends, gives_ret]
  exact ⟨_, rfl⟩
end Go.Lite

/-
  A law's call, from the interpreter's run; a row that lists variables, of which one is read; raw terms as they stand in the world.
-/
namespace Go.Lite
open Go Go.Proofs Go.RowKit
theorem returns_laid {H : Type} {enc : TypeId × Value → H} {a : Assume} {C : Checked} {os : Os} {f : FuncId} {fn : Func} {s : ChangeSpec} {conds : List PathCond} {apart fresh handsOn again : Bool} {X : World → Array Value → Prop}
    (own : ownKnob C.prog.godebug = none) (started : os.Started) (noInit : C.prog.inits.idxOf? f = none) (hfn : C.prog.funcs[f]? = some fn)
    (witness : ∃ (w : World) (tape : Tape) (i : Input), w.os = os ∧ (w.forCall tape i).Shaped C.prog ∧ i.vars = [] ∧ Input.okWide C.prog (w.forCall tape i) .any w.heap.size f i ∧
      ((s.pre enc C.prog fn conds apart (w.forCall tape i).memory i.args ∧ X (w.forCall tape i).memory i.args) ∧ sizedMet enc C.prog fn (OpenSpec.ofChange s) apart (w.forCall tape i).memory i.args) ∧ a.holds C.prog (lone (Frame.enter C.prog f i.args .normal) [] (w.forCall tape i)))
    (contract : ∀ (W : World) (base : Nat) (args : Array Value) (ds gs : List (DataW H)) (before : List MemPlace),
      (∀ (j : Nat) t v, fn.params[j]? = some t → args[j]? = some v → Value.okWide C.prog W .any base t v) →
      DataW.Whole enc C.prog fn.params.toList s.vars apart W args.toList ds gs before →
      conds.all (PathCond.test C.prog ⟨fn.params.toList, ds, s.plain.varTypes C.prog, gs⟩) = true →
      (DataW.weightsEach C.prog (fn.params.toList ++ s.plain.varTypes C.prog) (ds ++ gs)).all (· ≤ reachBytes) = true →
      W.ShapedOpen C.prog → X W.memory args →
      a.holds C.prog (lone (Frame.enter C.prog f args .normal) [] W) →
      Calls C.prog f args W fun e W' => ∃ v, e = .returned v ∧ s.post enc C.prog fn apart fresh handsOn again W args v W') :
    ReturnsInHanded a C os f .any (fun w args => (s.pre enc C.prog fn conds apart w args ∧ X w args) ∧ sizedMet enc C.prog fn (OpenSpec.ofChange s) apart w args) (s.post enc C.prog fn apart fresh handsOn again) := by
  refine returnsInHanded_of_calls own started noInit witness ?_
  intro w tape i _ hsh _ hok hpre hholds
  obtain ⟨_, _, _, fn', hfn', _, _, _, _, hval⟩ := hok
  have e : fn' = fn := Option.some.inj (hfn'.symm.trans hfn)
  subst e
  obtain ⟨⟨⟨ds, gs, before, hw, hc⟩, hx⟩, hz⟩ := hpre
  have hw' := DataW.Whole.of_heap (w' := w.forCall tape i) (by rfl) hw
  refine (contract (w.forCall tape i) w.heap.size i.args ds gs before hval hw' hc (hz.weights hw) hsh hx hholds).mono fun e W' ⟨v, he, hp⟩ => ?_
  subst he
  exact ChangeSpec.post_blind hp
theorem tab_of_laid {W : World} {a b : DataW Unit} (h : laidMet Tryz.prog [("math/bits.deBruijn32tab", a), ("math/bits.deBruijn64tab", b), ("internal/strconv.uint64pow10", Go.Proofs.YtmfdlglhngmacaaGreatDoor.Rows.laid_internal_strconv_uint64pow10)] W.memory) : TabAt W := by
  have h2 := h.filter fun x => x.1 == "internal/strconv.uint64pow10"
  have h3 : laidMet Tryz.prog [("internal/strconv.uint64pow10", Lib.tabData .u64 Lib.pow10Tab)] W.memory := h2
  have h4 := Lib.tabIs_of_head (g := 0) (t := 261) (e := 251) (n := 20) (by kernel_rfl) (by kernel_rfl) (by kernel_rfl) (by kernel_rfl) (by kernel_rfl) (by kernel_rfl) h3
  exact h4
theorem own5_ok {nb : NB} (hgl : (Tryz.prog).globals.size ≤ nb.n) (hT : ∀ w, nb.inv w → TabAt w) : ∀ f g, own5 f = some g → OwnOk Tryz.prog nb f g := by
  intro f g h
  unfold own5 at h
  cases h0 : Nat.beq f 12 with
  | true =>
    rw [h0] at h
    simp only [cond_true, Option.some.injEq] at h
    subst h
    intro xs args ι H w out hh
    cases hh
  | false =>
  rw [h0] at h
  simp only [cond_false] at h
  cases h1 : Nat.beq f 95 with
  | true =>
    rw [h1] at h
    simp only [cond_true, Option.some.injEq] at h
    subst h
    rw [Nat.eq_of_beq_eq_true h1]
    refine ownCheck_ok ?_
    intro t c o h
    simp only [lies4, Bool.or_eq_true, Bool.and_eq_true] at h
    rcases h with ⟨⟨h1, h2⟩, h3⟩ | ⟨⟨h1, h2⟩, h3⟩
    · rw [Nat.eq_of_beq_eq_true h1, Nat.eq_of_beq_eq_true h2, Nat.eq_of_beq_eq_true h3]
      exact ⟨by decide, by kernel_rfl⟩
    · rw [Nat.eq_of_beq_eq_true h1, Nat.eq_of_beq_eq_true h2, Nat.eq_of_beq_eq_true h3]
      exact ⟨by decide, by kernel_rfl⟩
  | false =>
    rw [h1] at h
    simp only [cond_false] at h
    cases h2 : Nat.beq f 28 with
    | true =>
      rw [h2] at h
      simp only [cond_true, Option.some.injEq] at h
      subst h
      rw [Nat.eq_of_beq_eq_true h2]
      exact ownString_ok
    | false =>
      rw [h2] at h
      simp only [cond_false] at h
      cases h3 : Nat.beq f 124 with
      | true =>
        rw [h3] at h
        simp only [cond_true, Option.some.injEq] at h
        subst h
        rw [Nat.eq_of_beq_eq_true h3]
        exact ownClone_ok hgl (by kernel_rfl) (e := 3) (by decide) (fun own mode => code124 own mode)
      | false =>
        rw [h3] at h
        simp only [cond_false] at h
        cases h4 : Nat.beq f 147 with
        | true =>
          rw [h4] at h
          simp only [cond_true, Option.some.injEq] at h
          subst h
          rw [Nat.eq_of_beq_eq_true h4]
          exact ownItoa_ok hT
        | false =>
          rw [h4] at h
          simp only [cond_false] at h
          cases h5 : Nat.beq f 148 with
          | true =>
            rw [h5] at h
            simp only [cond_true, Option.some.injEq] at h
            subst h
            rw [Nat.eq_of_beq_eq_true h5]
            exact ownRepeat_ok
          | false => rw [h5] at h; cases h
theorem own6_ok {nb : NB} (hgl : (Tryz.prog).globals.size ≤ nb.n) (hT : ∀ w, nb.inv w → TabAt w) : ∀ f g, own6 f = some g → OwnOk Tryz.prog nb f g := by
  intro f g h
  unfold own6 at h
  cases h0 : Nat.beq f 12 with
  | true =>
    rw [h0] at h
    simp only [cond_true, Option.some.injEq] at h
    subst h
    rw [Nat.eq_of_beq_eq_true h0]
    exact gEval_ok hgl fun n => callN_sound hgl (by kernel_rfl) (own5_ok hgl hT) n
  | false =>
    rw [h0] at h
    exact own5_ok hgl hT f g h
theorem calls_of_ret {W : World} (hsh : W.ShapedOpen Tryz.prog) (hT : TabAt W) {f : Nat} {xs : List AV} {args : Array Value} (h : Ret P6 f xs (.bool true)) (hxs : VRels (nbT W.heap.size) (emb0 W) xs args.toList) :
    Calls Tryz.prog f args W fun e w' => e = .returned (.bool true) ∧ RowKit.Below W.heap.size W w' := by
  obtain ⟨N, hN⟩ := h
  have hgl := globals_le hsh
  have hp : 0 < W.heap.size := by
    have h1 : 0 < (Tryz.prog).globals.size := of_decide_eq_true (by kernel_rfl)
    omega
  exact row_runN (nb := nbT W.heap.size) rfl ⟨hp, hT⟩ hgl (by kernel_rfl) (own6_ok hgl fun w h => h.2) (hN N (Nat.le_refl _) heap0) hxs
end Go.Lite

/-
  A world in which the listed variables hold what is listed.
-/
namespace Go.Lite
open Go Go.Proofs Go.RowKit
def cellsLaid {H : Type} : DataW H → Array Value
  | .agg l => (l.map fun d => match d with | .lit (.int k n) => Value.int k n | _ => .bool false).toArray
  | _ => #[]
noncomputable def laidWorld (P : Program) (os : Os) (l : List (Nat × DataW Unit)) : World :=
  let w0 := World.holding P os ⟨#[], #[], []⟩
  { w0 with heap := l.foldl (fun h p => h.modify p.1 fun
      | .cells _ t frozen => .cells (cellsLaid p.2) t frozen
      | o => o) w0.heap }
end Go.Lite
