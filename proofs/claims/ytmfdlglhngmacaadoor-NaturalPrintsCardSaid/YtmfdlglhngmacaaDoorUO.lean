/-
  Several texts in one: TTame, TLaw0, TLaw1, TRows, TLaid.
-/
import Derived.Test.YtmfdlglhngmacaaDoorUN
import Derived.Test.YtmfdlglhngmacaaDoorUL
import Derived.Test.YtmfdlglhngmacaaDoorUK
import Derived.Test.YtmfdlglhngmacaaDoorUE
import Derived.Test.YtmfdlglhngmacaaDoorRows
import Derived.LaidLaws
import Derived.LaidSub
import Derived.Handed

set_option linter.unusedSimpArgs false
set_option linter.unusedVariables false
set_option linter.defProp false
set_option maxRecDepth 100000

/-
 What the maker makes is well formed, small; a name that is not there is not used.
-/
namespace Go.Lite
open Go Go.Proofs
theorem intT_num {t : Str} (h : t ∈ intT) : t.length ≤ 1000 ∧ ∃ z : Int, z.natAbs < 10 ^ 200 ∧ t = decZ z := by
 have pos : ∀ d : Str, Digs d → d ≠ [] → d[0]? ≠ some 48 → d.length ≤ 30 → d.length ≤ 1000 ∧ ∃ z : Int, z.natAbs < 10 ^ 200 ∧ d = decZ z := fun d h1 h2 h3 h4 => by
   have e := decN_of h1 h2 h3
   refine ⟨by omega, (dval d : Nat), ?_, by rw [decZ_nonneg, e]⟩
   have : dval d < 10 ^ 200 := (decN_len_le (by decide)).1 (by rw [e]; omega)
   simpa using this
 have neg : ∀ c : Nat, 48 < c → c ≤ 57 → ([45, c] : Str).length ≤ 1000 ∧ ∃ z : Int, z.natAbs < 10 ^ 200 ∧ ([45, c] : Str) = decZ z := fun c h1 h2 => by
   refine ⟨by simp, -((c - 48 : Nat) : Int), ?_, ?_⟩
   · have : (-((c - 48 : Nat) : Int)).natAbs ≤ 9 := by omega
     exact Nat.lt_of_le_of_lt this (by decide)
   · rw [decZ_neg (by omega), decN_small (by omega)]
     simp; omega
 simp only [intT, List.mem_cons, List.not_mem_nil, or_false] at h
 rcases h with rfl | rfl | rfl | rfl | rfl | rfl | rfl | rfl | rfl
 · exact ⟨by simp, 0, by decide, by rw [show (0 : Int) = ((0 : Nat) : Int) from rfl, decZ_nonneg, decN_small (by omega)]⟩
 · exact pos _ (by intro c hc; simp at hc; omega) (by simp) (by simp) (by simp)
 · exact pos _ (by intro c hc; simp at hc; omega) (by simp) (by simp) (by simp)
 · exact neg 51 (by decide) (by decide)
 · exact pos _ (by intro c hc; simp at hc; omega) (by simp) (by simp) (by simp)
 · exact neg 53 (by decide) (by decide)
 · exact pos _ (by intro c hc; simp at hc; omega) (by simp) (by simp) (by simp)
 · exact pos _ (by intro c hc; simp at hc; omega) (by simp) (by simp) (by simp)
 · exact pos _ (by intro c hc; simp at hc; omega) (by simp) (by simp) (by simp)
theorem arity_from (s : Str) : ∀ (l : List Str) (i : Nat), 0 < arityFrom s l i → s ∈ l ∧ arityFrom s l i ≤ 2
 | [], i, h => by simp [arityFrom] at h
 | p :: l, i, h => by
   rw [arityFrom] at h ⊢
   by_cases hp : (p == s) = true
   · rw [if_pos hp]
     have : p = s := by simpa using hp
     exact ⟨by simp [this], by split <;> omega⟩
   · rw [if_neg hp] at h ⊢
     obtain ⟨h1, h2⟩ := arity_from s l (i + 1) h
     exact ⟨by simp [h1], h2⟩
theorem shp_wf {k : Int} {t : Str} {ns : List Str} {l : List X} (h : shp k t ns.length l.length) (hl : X.wfs l) : (X.mk k t ns l).wf := by
 have ha : k = 10 → 0 < arityX t → arityX t ≤ 2 := fun _ h => (arity_from t primT 0 h).2
 rw [X.wf]
 refine ⟨?_, ?_, ?_, ?_, ?_, hl⟩
 · rintro rfl hl; subst hl; simp [shp] at h
 · rintro rfl hl; subst hl; simp [shp] at h
 · rintro rfl; simp [shp] at h; omega
 · rintro rfl; simp [shp] at h; omega
 · rintro rfl
   have ha := ha rfl
   simp [shp] at h
   omega
theorem right_wf : ∀ x : X, x.right → x.wf := X.indA fun k t ns l ih h => by
 obtain ⟨h1, _, h3⟩ := h
 exact shp_wf h1 ((X.wfs_iff l).2 fun x hx => ih x hx ((rights_iff l).1 h3 x hx))
theorem prim_len {t : Str} (h : 0 < arityX t) : t.length ≤ 1000 ∧ ∀ c ∈ t, c < 256 := by
 have := (arity_from t primT 0 h).1
 have key : ∀ t ∈ primT, t.length ≤ 1000 ∧ ∀ c ∈ t, c < 256 := by decide
 exact key t this
theorem shp_num {k : Int} {t : Str} {m n : Nat} (h : shp k t m n) (h5 : k = 5 → t.length ≤ 1000 ∧ ∀ c ∈ t, c < 256) : numOk k t := by
 unfold numOk
 rcases h with ⟨rfl, h, _⟩ | ⟨rfl, h, _⟩ | ⟨rfl, rfl, _⟩ | ⟨rfl, h, _⟩ | ⟨rfl, h, _⟩ | ⟨rfl, rfl, _⟩ | ⟨rfl, rfl, _⟩ | ⟨rfl, rfl, _⟩ | ⟨rfl, rfl, _⟩ | ⟨rfl, h, _⟩
 · obtain ⟨h1, z, h2, rfl⟩ := intT_num h
   exact ⟨⟨h1, decZ_byte z⟩, fun _ => ⟨z, h2, rfl⟩⟩
 · exact ⟨by rcases h with rfl | rfl <;> decide, fun h => absurd h (by decide)⟩
 · exact ⟨⟨by simp, by simp⟩, fun h => absurd h (by decide)⟩
 · exact ⟨h.2, fun h => absurd h (by decide)⟩
 · exact ⟨h5 rfl, fun h => absurd h (by decide)⟩
 · exact ⟨⟨by simp, by simp⟩, fun h => absurd h (by decide)⟩
 · exact ⟨⟨by simp, by simp⟩, fun h => absurd h (by decide)⟩
 · exact ⟨⟨by simp, by simp⟩, fun h => absurd h (by decide)⟩
 · exact ⟨⟨by simp, by simp⟩, fun h => absurd h (by decide)⟩
 · exact ⟨prim_len h, fun h => absurd h (by decide)⟩
mutual
def X.no (w : Str) : X → Prop
 | .mk k t _ l => (k = 5 → t ≠ w) ∧ X.nos w l
def X.nos (w : Str) : List X → Prop
 | [] => True
 | x :: l => x.no w ∧ X.nos w l
end
theorem X.nos_iff (w : Str) : ∀ (l : List X), X.nos w l ↔ ∀ x ∈ l, x.no w
 | [] => by simp [X.nos]
 | x :: l => by simp [X.nos, X.nos_iff w l]
theorem vdot_len (n : Nat) : (vdot n).length ≤ 10 := by
 have := numT_len n
 rw [vdot, List.length_append]
 simp only [List.length_cons, List.length_nil]; omega
theorem vdot_byte (n : Nat) (h : n ≤ 901) : ∀ c ∈ vdot n, c < 256 := by
 unfold vdot numT
 intro c hc
 rcases List.mem_append.1 hc with hc | hc
 · simp only [List.mem_cons, List.not_mem_nil, or_false] at hc
   omega
 · by_cases h1 : n < 10 <;> by_cases h2 : n < 100 <;> simp only [h1, h2, if_true, if_false, List.mem_cons, List.not_mem_nil, or_false] at hc <;> omega
theorem good_tame : ∀ (x : X) (sc : List Str) (m m' : Nat), x.good sc m m' → m' ≤ 900 → (∀ s ∈ sc, s.length ≤ 1000 ∧ ∀ c ∈ s, c < 256) → x.tame := X.indA fun k t ns l ih sc m m' h hm hs => by
 have hb := good_bnd _ sc m m' h
 obtain ⟨h1, h2, h3, h4, h5⟩ := h
 have key : ∀ (l : List X), (∀ x ∈ l, ∀ sc m m', x.good sc m m' → m' ≤ 900 → (∀ s ∈ sc, s.length ≤ 1000 ∧ ∀ c ∈ s, c < 256) → x.tame) → ∀ sc m m', X.goods l sc m m' → m' ≤ 900 → (∀ s ∈ sc, s.length ≤ 1000 ∧ ∀ c ∈ s, c < 256) → X.tames l ∧ m ≤ m' := by
   intro l
   induction l with
   | nil => intro _ sc m m' h _ _; rw [X.goods] at h; exact ⟨trivial, by omega⟩
   | cons x l ihl =>
     intro hx sc m m' h hm hs
     obtain ⟨m1, g1, g2⟩ := h
     obtain ⟨j1, j2⟩ := ihl (fun y hy => hx y (by simp [hy])) sc m1 m' g2 hm hs
     have := (good_bnd x sc m m1 g1).1
     exact ⟨⟨hx x (by simp) sc m m1 g1 (by omega) hs, j1⟩, by omega⟩
 rw [X.tame]
 have hnl : ns.length ≤ m' - m := by
   have e := hb.2
   rw [X.bnd] at e
   have := congrArg List.length e
   rw [vds_len, List.length_append] at this
   omega
 have hsn : ∀ s ∈ sc ++ ns, s.length ≤ 1000 ∧ ∀ c ∈ s, c < 256 := fun s hs' => by
   rcases List.mem_append.1 hs' with hs' | hs'
   · exact hs s hs'
   · rw [h4, vds, List.mem_map] at hs'
     obtain ⟨j, hj, rfl⟩ := hs'
     have := vdot_len j
     rw [List.mem_range'_1] at hj
     exact ⟨by omega, vdot_byte j (by omega)⟩
 exact ⟨shp_num h1 fun h => hs t (h3 h), by omega, by omega, (key l ih (sc ++ ns) _ m' h5 hm hsn).1⟩
theorem good_no (w : Str) (hw : ∀ j, vdot j ≠ w) : ∀ (x : X) (sc : List Str) (m m' : Nat), x.good sc m m' → (∀ s ∈ sc, s ≠ w) → x.no w := X.indA fun k t ns l ih sc m m' h hs => by
 obtain ⟨h1, h2, h3, h4, h5⟩ := h
 have key : ∀ (l : List X), (∀ x ∈ l, ∀ sc m m', x.good sc m m' → (∀ s ∈ sc, s ≠ w) → x.no w) → ∀ sc m m', X.goods l sc m m' → (∀ s ∈ sc, s ≠ w) → X.nos w l := by
   intro l
   induction l with
   | nil => intro _ sc m m' h _; trivial
   | cons x l ihl =>
     intro hx sc m m' h hs
     obtain ⟨m1, g1, g2⟩ := h
     exact ⟨hx x (by simp) sc m m1 g1 hs, ihl (fun y hy => hx y (by simp [hy])) sc m1 m' g2 hs⟩
 rw [X.no]
 refine ⟨fun h => hs t (h3 h), key l ih (sc ++ ns) _ m' h5 fun s hs' => ?_⟩
 rcases List.mem_append.1 hs' with hs' | hs'
 · exact hs s hs'
 · rw [h4, vds, List.mem_map] at hs'
   obtain ⟨j, hj, rfl⟩ := hs'
   exact hw j
end Go.Lite

/-
 The laws' ground: natural.Eval stands for its Lean function.
-/
namespace Go.Lite
open Go Go.Proofs
noncomputable def own6 (f : FuncId) : Option (List AV → Heap → R) := bif Nat.beq f 14 then some gEval else own5 f
noncomputable def P6 : Prg := slimPrg Tryd.prog own6 mode5
theorem cm11 {n : Nat} {caps xs : List AV} {H : Heap} : callV (callN P6 n) (.func 11 caps) xs H = callS P6 n 11 (mapHM shutV (xs ++ caps) H) := callV_s rfl rfl
theorem cm12 {n : Nat} {caps xs : List AV} {H : Heap} : callV (callN P6 n) (.func 12 caps) xs H = callS P6 n 12 (mapHM shutV (xs ++ caps) H) := callV_s rfl rfl
theorem cm13 {n : Nat} {caps xs : List AV} {H : Heap} : callV (callN P6 n) (.func 13 caps) xs H = callS P6 n 13 (mapHM shutV (xs ++ caps) H) := callV_s rfl rfl
theorem cm14 {n : Nat} {caps xs : List AV} {H : Heap} : callV (callN P6 n) (.func 14 caps) xs H = callN P6 n 14 (xs ++ caps) H := rfl
theorem cm15 {n : Nat} {caps xs : List AV} {H : Heap} : callV (callN P6 n) (.func 15 caps) xs H = callS P6 n 15 (mapHM shutV (xs ++ caps) H) := callV_s rfl rfl
theorem cm16 {n : Nat} {caps xs : List AV} {H : Heap} : callV (callN P6 n) (.func 16 caps) xs H = callS P6 n 16 (mapHM shutV (xs ++ caps) H) := callV_s rfl rfl
theorem cm17 {n : Nat} {caps xs : List AV} {H : Heap} : callV (callN P6 n) (.func 17 caps) xs H = callS P6 n 17 (mapHM shutV (xs ++ caps) H) := callV_s rfl rfl
theorem cm18 {n : Nat} {caps xs : List AV} {H : Heap} : callV (callN P6 n) (.func 18 caps) xs H = callS P6 n 18 (mapHM shutV (xs ++ caps) H) := callV_s rfl rfl
theorem cm19 {n : Nat} {caps xs : List AV} {H : Heap} : callV (callN P6 n) (.func 19 caps) xs H = callS P6 n 19 (mapHM shutV (xs ++ caps) H) := callV_s rfl rfl
theorem cm20 {n : Nat} {caps xs : List AV} {H : Heap} : callV (callN P6 n) (.func 20 caps) xs H = callS P6 n 20 (mapHM shutV (xs ++ caps) H) := callV_s rfl rfl
theorem cm21 {n : Nat} {caps xs : List AV} {H : Heap} : callV (callN P6 n) (.func 21 caps) xs H = call1S P6 n 21 (mapHM softV (xs ++ caps) H) := callV_1 rfl rfl
theorem cm22 {n : Nat} {caps xs : List AV} {H : Heap} : callV (callN P6 n) (.func 22 caps) xs H = callS P6 n 22 (mapHM shutV (xs ++ caps) H) := callV_s rfl rfl
theorem cm23 {n : Nat} {caps xs : List AV} {H : Heap} : callV (callN P6 n) (.func 23 caps) xs H = callS P6 n 23 (mapHM shutV (xs ++ caps) H) := callV_s rfl rfl
theorem cm24 {n : Nat} {caps xs : List AV} {H : Heap} : callV (callN P6 n) (.func 24 caps) xs H = call1S P6 n 24 (mapHM softV (xs ++ caps) H) := callV_1 rfl rfl
set_option linter.defProp false in
def CM := (And.intro (And.intro (And.intro @cm11 (And.intro @cm12 @cm13)) (And.intro (And.intro @cm14 @cm15) (And.intro @cm16 @cm17))) (And.intro (And.intro @cm18 (And.intro @cm19 @cm20)) (And.intro (And.intro @cm21 @cm22) (And.intro @cm23 @cm24))))
theorem p56 : PrgLe P5 P6 where
 code := rfl
 mode := rfl
 none := fun f h => by
   show own6 f = none
   have h : own5 f = none := h
   unfold own6
   cases hb : Nat.beq f 14 with
   | false => exact h
   | true =>
     unfold own5 at h
     rw [hb] at h; cases h
 some := fun f g h => by
   have h : own5 f = some g := h
   cases hb : Nat.beq f 14 with
   | false => exact ⟨g, by show own6 f = some g; unfold own6; rw [hb]; exact h, fun _ _ => RLe.refl⟩
   | true =>
     unfold own5 at h
     rw [hb] at h
     simp only [cond_true, Option.some.injEq] at h
     refine ⟨gEval, by show own6 f = some gEval; unfold own6; rw [hb]; rfl, fun xs H => ?_⟩
     rw [← h]; exact RLe.none
theorem Ret.up {f : FuncId} {xs : List AV} {v : AV} (r : Ret P5 f xs v) : Ret P6 f xs v := Ret.lift p56 r
noncomputable def gEvalF (A : Nat → R) : R := open Classical in if h : ∃ o, Ev fun n => A n = some o then some h.choose else none
theorem run15 (a b : Int) (hb : b ≠ 0) : Ret P6 15 [.int .i64 a, .int .i64 b] (.int .i64 (within a b)) := by
 refine Ret.of rfl (code15 _ _) rfl rfl (fun H => by simp -implicitDefEqProofs only [↓v_lenS, ZZ, Nat.reduceBEq, reduceIte, Nat.reduceAdd, Nat.reduceLeDiff, Nat.reduceEqDiff, Nat.reduceBneDiff]) (Ev.of fun n H => ?_)
 unfold within
 by_cases h : a.tmod b < 0
 all_goals simp -implicitDefEqProofs only [c15, ↓v_lenS, ZZ, Nat.reduceBEq, reduceIte, Nat.reduceAdd, Nat.reduceLeDiff, Nat.reduceEqDiff, Nat.reduceBneDiff, if_neg, if_pos, hb, h, Ends, gives_ret]
 all_goals exact ⟨_, rfl⟩
noncomputable def evalV (v : AV) (z : Int) (H : Heap) : R := gEvalF fun k => opened H (noPanic (runE (callN P5 k) k [v, .lst 0 0 true [], .int .i64 z] H.bare))
theorem gEvalN_eq {k : Nat} {x : AV} {z : Int} {H : Heap} : gEvalN k [x, .nils, .int .i64 z] H = (shutV x H).bind fun q => opened q.2 (noPanic (runE (callN P5 k) k [q.1, .lst 0 0 true [], .int .i64 z] q.2.bare)) := by
 unfold gEvalN
 rw [mapHM_cons]
 cases shutV x H with
 | none => rfl
 | some q =>
   obtain ⟨v, H1⟩ := q
   simp -implicitDefEqProofs only [mapHM_cons, mapHM_nil, ↓v_lenS, ZZ, Nat.reduceBEq, reduceIte, Nat.reduceAdd, Nat.reduceLeDiff, Nat.reduceEqDiff, Nat.reduceBneDiff, Option.bind_some, List.length_cons, List.length_nil]
theorem gEvalF_none : gEvalF (fun _ => none) = none := by
 unfold gEvalF
 split
 · rename_i h
   obtain ⟨N, hN⟩ := h.choose_spec
   exact absurd (hN N (Nat.le_refl _)) (by simp)
 · rfl
theorem call14s {n : Nat} {x : AV} {z : Int} {H : Heap} : callN P6 (n + 1) 14 [x, .nils, .int .i64 z] H = (shutV x H).bind fun q => evalV q.1 z q.2 := by
 rw [callN_own (P := P6) (g := gEval) rfl]
 show gEvalF (fun n => gEvalN n [x, .nils, .int .i64 z] H) = _
 rw [show (fun n => gEvalN n [x, .nils, .int .i64 z] H) = fun n => (shutV x H).bind fun q => opened q.2 (noPanic (runE (callN P5 n) n [q.1, .lst 0 0 true [], .int .i64 z] q.2.bare)) from funext fun n => gEvalN_eq]
 cases shutV x H with
 | none => exact gEvalF_none
 | some q => rfl
theorem evalV_ok {e : X} (ht : e.tame) (F : Nat) (z : Int) (hz : z = F) (hF : F ≤ 1099511627776) {m : Nat} {o : O Str} (h : outA m e [] F = some o) (H : Heap) : evalV e.v z H = some (.ret (resV (resO o)), H) := by
 subst hz
 rw [← eval14 e ht F hF h H]
 show _ = gEvalF (fun n => gEvalN n [e.v, .nils, .int .i64 F] H)
 have hs : shutV e.v H = some (e.v, H) := by
   obtain ⟨k, t, ns, l⟩ := e
   rw [X.v_mk]
   simp -implicitDefEqProofs only [XS, ↓v_lenS, ZZ, Nat.reduceBEq, reduceIte, Nat.reduceAdd, Nat.reduceLeDiff, Nat.reduceEqDiff, Nat.reduceBneDiff]
 rw [show (fun n => gEvalN n [e.v, .nils, .int .i64 F] H) = fun n => opened H (noPanic (runE (callN P5 n) n [e.v, .lst 0 0 true [], .int .i64 F] H.bare)) from funext fun n => by rw [gEvalN_eq, hs]; rfl]
 rfl
def resA (o : O Str) : AV := .agg [.int .i64 o.kind, .str o.txt, .int .i64 0]
theorem resV_eq (o : O Str) : resV (resO o) = .tuple [.agg [.int .i64 o.kind, .str o.txt, .int .i64 0], .int .i64 o.st.steps, .int .i64 o.st.uses] := by
 cases o <;> rfl
def fiveX : X := .mk 1 [53] [] []
theorem five_out : outA 3 fiveX [] 1 = some (.val [53] ⟨[.done (.atom 3 emptyT)], 1, 0⟩) := by
 unfold outA
 simp [fiveX, evalA_s, evalF, S.tick, constV, O.bind, printA_s, sayA, inputA, S.new]
theorem known11 : Ret P6 11 [] (.bool true) := by
 have ht : fiveX.tame := by
   rw [fiveX, X.tame]
   refine ⟨⟨⟨by simp, by simp⟩, fun _ => ⟨5, by decide, ?_⟩⟩, by simp, by simp, trivial⟩
   rw [show (5 : Int) = ((5 : Nat) : Int) from rfl, decZ_nonneg, decN_small (by omega)]
 have eV := evalV_ok ht 1 1 rfl (by omega) five_out
 rw [fiveX, X.v_mk, resV_eq] at eV
 simp only [O.kind, O.txt, O.st, show ((1 : Nat) : Int) = 1 from rfl, show ((0 : Nat) : Int) = 0 from rfl, show vStrs [] = .lst 0 0 true [] from rfl, show vXs [] = .lst 0 0 true [] from rfl] at eV
 refine Ret.of rfl (code11 _ _) rfl rfl (fun H => by simp -implicitDefEqProofs only [↓v_lenS, ZZ, Nat.reduceBEq, reduceIte, Nat.reduceAdd, Nat.reduceLeDiff, Nat.reduceEqDiff, Nat.reduceBneDiff]) ((Ev.ge 1).mono fun n hn H => ?_)
 obtain ⟨n, rfl⟩ : ∃ k, n = k + 1 := ⟨n - 1, by omega⟩
 simp -implicitDefEqProofs only [c11, ↓v_lenS, ZZ, Nat.reduceBEq, reduceIte, Nat.reduceAdd, Nat.reduceLeDiff, Nat.reduceEqDiff, Nat.reduceBneDiff, CM, call14s, eV, Ends, gives_ret]
 exact ⟨_, rfl⟩
end Go.Lite

/-
 What laws ask of terms that were made.
-/
namespace Go.Lite
open Go Go.Proofs
structure Made (e : X) : Prop where
 wf : e.wf
 tame : e.tame
 no : ∀ w, (∀ j, vdot j ≠ w) → e.no w
theorem made_of {e : X} {m' : Nat} (h : e.good [] 0 m') (hm : m' < 100) : Made e :=
 ⟨right_wf e (good_right e [] 0 m' h), good_tame e [] 0 m' h (by omega) (fun s hs => by cases hs), fun w hw => good_no w hw e [] 0 m' h fun s hs => by cases hs⟩
theorem few_term (l : List Raw) (hl : l.length ≤ 9223372036854775807) (hf : Raw.fits l) (h : sizeR 13 l ≤ 40) : ∃ e : X, Made e ∧ Ret P6 13 [vRaws l] e.v := by
 obtain ⟨e, m', h1, h2, h3, h4⟩ := term12 l hl hf (by rw [← few_cnt 13 l h]; exact h)
 exact ⟨e, made_of h1 h3, h4.up⟩
theorem eval_told {e : X} (ht : e.tame) (F : Nat) (z : Int) (hz : z = F) (hF : F ≤ 1099511627776) {m : Nat} {o : O Str} (h : outA m e [] F = some o) (H : Heap) : evalV e.v z H = some (.ret (.tuple [.agg [.int .i64 o.kind, .str o.txt, .int .i64 0], .int .i64 o.st.steps, .int .i64 o.st.uses]), H) := by
 rw [evalV_ok ht F z hz hF h, resV_eq]
end Go.Lite

/-
 A law's call, from the interpreter's run; a row that lists variables, of which one is read; raw terms as they stand in the world.
-/
namespace Go.Lite
open Go Go.Proofs Go.RowKit
theorem returns_laid {H : Type} {enc : TypeId × Value → H} {a : Assume} {C : Checked} {os : Os} {f : FuncId} {fn : Func} {s : ChangeSpec} {conds : List PathCond} {apart fresh handsOn again : Bool} {X : World → Array Value → Prop}
   (own : ownKnob C.prog.godebug = none) (started : os.Started) (noInit : C.prog.inits.idxOf? f = none) (hfn : C.prog.funcs[f]? = some fn)
   (witness : ∃ (w : World) (tape : Tape) (i : Input), w.os = os ∧ (w.forCall tape i).Shaped C.prog ∧ i.vars = [] ∧ Input.okWide C.prog (w.forCall tape i) .any w.heap.size f i ∧
     ((s.pre enc C.prog fn conds apart (w.forCall tape i).memory i.args ∧ X (w.forCall tape i).memory i.args) ∧ sizedMet enc C.prog fn (OpenSpec.ofChange s) apart (w.forCall tape i).memory i.args) ∧ a.holds C.prog (lone (Frame.enter C.prog f i.args .normal) [] (w.forCall tape i)))
   (contract : ∀ (W : World) (base : Nat) (args : Array Value) (ds gs : List (DataW H)) (before : List MemPlace),
     (∀ (j : Nat) t v, fn.params[j]? = some t → args[j]? = some v → Value.okWide C.prog W .any base t v) →
     DataW.Whole enc C.prog fn.params.toList s.vars apart W args.toList ds gs before →
     conds.all (PathCond.test C.prog ⟨fn.params.toList, ds, s.plain.varTypes C.prog, gs⟩) = true →
     (DataW.weightsEach C.prog (fn.params.toList ++ s.plain.varTypes C.prog) (ds ++ gs)).all (· ≤ reachBytes) = true →
     W.ShapedOpen C.prog → X W.memory args →
     a.holds C.prog (lone (Frame.enter C.prog f args .normal) [] W) →
     Calls C.prog f args W fun e W' => ∃ v, e = .returned v ∧ s.post enc C.prog fn apart fresh handsOn again W args v W') :
   ReturnsInHanded a C os f .any (fun w args => (s.pre enc C.prog fn conds apart w args ∧ X w args) ∧ sizedMet enc C.prog fn (OpenSpec.ofChange s) apart w args) (s.post enc C.prog fn apart fresh handsOn again) := by
 refine returnsInHanded_of_calls own started noInit witness ?_
 intro w tape i _ hsh _ hok hpre hholds
 obtain ⟨_, _, _, fn', hfn', _, _, _, _, hval⟩ := hok
 have e : fn' = fn := Option.some.inj (hfn'.symm.trans hfn)
 subst e
 obtain ⟨⟨⟨ds, gs, before, hw, hc⟩, hx⟩, hz⟩ := hpre
 have hw' := DataW.Whole.of_heap (w' := w.forCall tape i) (by rfl) hw
 refine (contract (w.forCall tape i) w.heap.size i.args ds gs before hval hw' hc (hz.weights hw) hsh hx hholds).mono fun e W' ⟨v, he, hp⟩ => ?_
 subst he
 exact ChangeSpec.post_blind hp
theorem tab_of_laid {W : World} {a b : DataW Unit} (h : laidMet Tryd.prog [("math/bits.deBruijn32tab", a), ("math/bits.deBruijn64tab", b), ("internal/strconv.uint64pow10", Go.Proofs.YtmfdlglhngmacaaDoor.Rows.laid_internal_strconv_uint64pow10)] W.memory) : TabAt W := by
 have h2 := h.filter fun x => x.1 == "internal/strconv.uint64pow10"
 have h3 : laidMet Tryd.prog [("internal/strconv.uint64pow10", Lib.tabData .u64 Lib.pow10Tab)] W.memory := h2
 have h4 := Lib.tabIs_of_head (g := 0) (t := 172) (e := 162) (n := 20) (by kernel_rfl) (by kernel_rfl) (by kernel_rfl) (by kernel_rfl) (by kernel_rfl) (by kernel_rfl) h3
 exact h4
theorem open_raws {H : Type} {enc : TypeId × Value → H} {P : Program} {W : World} {sp : Nat → Bool} {held : Bool} {t e : TypeId} {fs : Array Field} (ht : P.underlying t = some (.slice e)) (he : P.underlying e = some (.struct fs)) (hc : P.cellsOf e = 3)
   (hf0 : ∃ f, fs[0]? = some f ∧ f.offset = 0 ∧ P.underlying f.type = some (.int .i64) ∧ P.cellsOf f.type = 1) (hf1 : ∃ f, fs[1]? = some f ∧ f.offset = 1 ∧ P.underlying f.type = some (.int .i64) ∧ P.cellsOf f.type = 1)
   (hf2 : ∃ f, fs[2]? = some f ∧ f.offset = 2 ∧ f.type = t ∧ P.cellsOf f.type = 1) :
   ∀ (fuel : Nat) (u : Value) (x : DataW H × List MemPlace), DataW.trod enc P W 0 sp held fuel t [u] = some x →
   ∃ l : List Raw, (l.length ≤ 9223372036854775807 ∧ Raw.fits l) ∧ VRel (nbT W.heap.size) (emb0 W) (vRaws l) u := by
 intro fuel
 induction fuel using Nat.strongRecOn with
 | _ fuel ih =>
   intro u x h
   rcases DataW.trod_slice ht h with ⟨h1, _⟩ | ⟨a, len, cap, elems, rest, n, hfu, h1, _, _, hl, hm, hlen, hel, _, _⟩
   · simp only [List.cons.injEq, and_true] at h1
     subst h1
     exact ⟨[], ⟨by simp, trivial⟩, slice_nil_rel⟩
   · simp only [List.cons.injEq, and_true] at h1
     subst h1
     rw [hc] at hel
     obtain ⟨l, h1, h2, h3⟩ := slice_rel (W := W) (g := Raw.cells) (F := Raw.fit) (es := 3) (by decide) Raw.cells_len hl fun i hi => by
       obtain ⟨y, hy⟩ : ∃ y, elems[i]? = some y := ⟨elems[i]'(by omega), List.getElem?_eq_getElem _⟩
       have := hel i hi
       rw [hy] at this
       obtain ⟨cs, hcs, hd⟩ := Option.bind_eq_some_iff.1 this
       obtain ⟨xs, m, hm, _, hcl, hxl, hfs⟩ := DataW.trod_struct he hd
       rw [hc] at hcl
       obtain ⟨c0, c1, c2, rfl⟩ : ∃ c0 c1 c2, cs = [c0, c1, c2] := by
         match cs, hcl with
         | [c0, c1, c2], _ => exact ⟨c0, c1, c2, rfl⟩
       obtain ⟨f0, g0, o0, u0, z0⟩ := hf0
       obtain ⟨f1, g1, o1, u1, z1⟩ := hf1
       obtain ⟨f2, g2, o2, u2, z2⟩ := hf2
       have q0 := hfs 0 f0 g0
       have q1 := hfs 1 f1 g1
       have q2 := hfs 2 f2 g2
       have hsz : xs.length = fs.size := hxl
       have l2 : 2 < fs.size := (Array.getElem?_eq_some_iff.1 g2).1
       rw [o0, z0, List.getElem?_eq_getElem (by omega)] at q0
       rw [o1, z1, List.getElem?_eq_getElem (by omega)] at q1
       rw [o2, z2, u2, List.getElem?_eq_getElem (by omega)] at q2
       simp only [List.drop_zero, List.take_succ_cons, List.take_zero, List.drop_succ_cons] at q0 q1 q2
       obtain ⟨k, hk, _, _⟩ := DataW.trod_int u0 q0
       obtain ⟨q, hq, _, _⟩ := DataW.trod_int u1 q1
       obtain ⟨l', ⟨w1, w2⟩, w3⟩ := ih m (by omega) c2 _ q2
       simp only [List.cons.injEq, and_true] at hk hq
       subst hk; subst hq
       refine ⟨_, .mk k q l', hcs, ?_, w1, w2⟩
       rw [Raw.cells_mk]
       simp only [VRels, VRel]
       exact ⟨_, _, rfl, rfl, _, _, rfl, rfl, _, _, rfl, w3, rfl⟩
     have hmx : maxLen = 9223372036854775807 := by decide
     exact ⟨l, ⟨by omega, (Raw.fits_iff l).2 h3⟩, h2⟩
theorem own5_ok {nb : NB} (hgl : (Tryd.prog).globals.size ≤ nb.n) (hT : ∀ w, nb.inv w → TabAt w) : ∀ f g, own5 f = some g → OwnOk Tryd.prog nb f g := by
 intro f g h
 unfold own5 at h
 cases h0 : Nat.beq f 14 with
 | true =>
   rw [h0] at h
   simp only [cond_true, Option.some.injEq] at h
   subst h
   intro xs args ι H w out hh
   cases hh
 | false =>
 rw [h0] at h
 simp only [cond_false] at h
 cases h1 : Nat.beq f 69 with
 | true =>
   rw [h1] at h
   simp only [cond_true, Option.some.injEq] at h
   subst h
   rw [Nat.eq_of_beq_eq_true h1]
   refine ownCheck_ok ?_
   intro t c o h
   simp only [lies4, Bool.or_eq_true, Bool.and_eq_true] at h
   rcases h with ⟨⟨h1, h2⟩, h3⟩ | ⟨⟨h1, h2⟩, h3⟩
   · rw [Nat.eq_of_beq_eq_true h1, Nat.eq_of_beq_eq_true h2, Nat.eq_of_beq_eq_true h3]
     exact ⟨by decide, by kernel_rfl⟩
   · rw [Nat.eq_of_beq_eq_true h1, Nat.eq_of_beq_eq_true h2, Nat.eq_of_beq_eq_true h3]
     exact ⟨by decide, by kernel_rfl⟩
 | false =>
   rw [h1] at h
   simp only [cond_false] at h
   cases h2 : Nat.beq f 29 with
   | true =>
     rw [h2] at h
     simp only [cond_true, Option.some.injEq] at h
     subst h
     rw [Nat.eq_of_beq_eq_true h2]
     exact ownString_ok
   | false =>
     rw [h2] at h
     simp only [cond_false] at h
     cases h3 : Nat.beq f 86 with
     | true =>
       rw [h3] at h
       simp only [cond_true, Option.some.injEq] at h
       subst h
       rw [Nat.eq_of_beq_eq_true h3]
       exact ownClone_ok hgl (by kernel_rfl) (e := 3) (by decide) (fun own mode => code86 own mode)
     | false =>
       rw [h3] at h
       simp only [cond_false] at h
       cases h4 : Nat.beq f 98 with
       | true =>
         rw [h4] at h
         simp only [cond_true, Option.some.injEq] at h
         subst h
         rw [Nat.eq_of_beq_eq_true h4]
         exact ownItoa_ok hT
       | false =>
         rw [h4] at h
         simp only [cond_false] at h
         cases h5 : Nat.beq f 99 with
         | true =>
           rw [h5] at h
           simp only [cond_true, Option.some.injEq] at h
           subst h
           rw [Nat.eq_of_beq_eq_true h5]
           exact ownRepeat_ok
         | false => rw [h5] at h; cases h
theorem own6_ok {nb : NB} (hgl : (Tryd.prog).globals.size ≤ nb.n) (hT : ∀ w, nb.inv w → TabAt w) : ∀ f g, own6 f = some g → OwnOk Tryd.prog nb f g := by
 intro f g h
 unfold own6 at h
 cases h0 : Nat.beq f 14 with
 | true =>
   rw [h0] at h
   simp only [cond_true, Option.some.injEq] at h
   subst h
   rw [Nat.eq_of_beq_eq_true h0]
   exact gEval_ok hgl fun n => callN_sound hgl (by kernel_rfl) (own5_ok hgl hT) n
 | false =>
   rw [h0] at h
   exact own5_ok hgl hT f g h
theorem calls_of_ret {W : World} (hsh : W.ShapedOpen Tryd.prog) (hT : TabAt W) {f : Nat} {xs : List AV} {args : Array Value} (h : Ret P6 f xs (.bool true)) (hxs : VRels (nbT W.heap.size) (emb0 W) xs args.toList) :
   Calls Tryd.prog f args W fun e w' => e = .returned (.bool true) ∧ RowKit.Below W.heap.size W w' := by
 obtain ⟨N, hN⟩ := h
 have hgl := globals_le hsh
 have hp : 0 < W.heap.size := by
   have h1 : 0 < (Tryd.prog).globals.size := of_decide_eq_true (by kernel_rfl)
   omega
 exact row_runN (nb := nbT W.heap.size) rfl ⟨hp, hT⟩ hgl (by kernel_rfl) (own6_ok hgl fun w h => h.2) (hN N (Nat.le_refl _) heap0) hxs
end Go.Lite

/-
 A world in which the listed variables hold what is listed.
-/
namespace Go.Lite
open Go Go.Proofs Go.RowKit
def cellsLaid {H : Type} : DataW H → Array Value
 | .agg l => (l.map fun d => match d with | .lit (.int k n) => Value.int k n | _ => .bool false).toArray
 | _ => #[]
noncomputable def laidWorld (P : Program) (os : Os) (l : List (Nat × DataW Unit)) : World :=
 let w0 := World.holding P os ⟨#[], #[], []⟩
 { w0 with heap := l.foldl (fun h p => h.modify p.1 fun
     | .cells _ t frozen => .cells (cellsLaid p.2) t frozen
     | o => o) w0.heap }
end Go.Lite
