/- The row of the law NaturalPrints, and its card: what its call does, from the interpreter's run; what it lists, tied to the program's text. -/
import Derived.Test.YtmfdlglhngmacaaDoorUN
import Derived.Test.YtmfdlglhngmacaaDoorUO
import Derived.Test.YtmfdlglhngmacaaDoorUI
import Derived.Test.YtmfdlglhngmacaaDoorUC
import Derived.Test.YtmfdlglhngmacaaDoorProg
import Derived.Test.YtmfdlglhngmacaaDoorUD
import Derived.Test.YtmfdlglhngmacaaDoorTie
import Derived.Test.YtmfdlglhngmacaaDoorCards
import Derived.WalkKit
import Derived.ProofKit
import Derived.OpenShut
import Derived.ShutString
import Derived.ChangeOld
import Derived.Below
import Derived.SizedLaws
import Derived.HandedShaped
import Derived.Carry
import Derived.SevenTiedAt

/-
  Plain laws of the machine: long rows, deep rows, a row that holds itself.
-/
namespace Go.Lite
set_option maxRecDepth 100000
set_option linter.unusedVariables false
set_option linter.unusedSimpArgs false

noncomputable section

def nilK : X := .mk 3 [] [] []
def oneK : X := .mk 1 [49] [] []
/-- so many pairs, one in the other -/
def chainX (deep : Bool) : Nat → X
  | 0 => nilK
  | i + 1 => .mk 10 consP [] (if deep then [chainX deep i, nilK] else [oneK, chainX deep i])

theorem print_atom {fuel n : Nat} {out : Str} {k : Int} {t : Str} {s : S} : printA fuel (n + 1) out (.atom k t) s = some (sayA out t s) := by rw [printA_s]
theorem force_done {fuel n c : Nat} {v : V} {s : S} (h : s.cells[c]? = some (.done v)) : forceA fuel (n + 1) c s = some (.val v s) := by rw [forceA, h]
theorem say_ok {out t : Str} {s : S} (h : out.length + t.length ≤ 2000) : sayA out t s = .val (out ++ t) s := by unfold sayA; rw [if_neg (by omega)]
theorem say_no {out t : Str} {s : S} (h : 2000 < out.length + t.length) : sayA out t s = .stop 7 [] s := by unfold sayA; rw [if_pos (by omega)]

/-- what stands for the i-th of a chain: a cell -/
def isChain (deep : Bool) (env : Env) (i : Nat) (c : C) : Prop := (i = 0 ∧ c = .done (.atom 3 emptyT)) ∨ (0 < i ∧ c = .wait (chainX deep i) env)

theorem arg_chain (deep : Bool) (env : Env) (i : Nat) (s : S) : (argA (chainX deep i) env s).1 = s.cells.length ∧ ∃ c, isChain deep env i c ∧ (argA (chainX deep i) env s).2 = ⟨s.cells ++ [c], s.steps, s.uses⟩ := by
  cases i with
  | zero => exact ⟨rfl, .done (.atom 3 emptyT), .inl ⟨rfl, rfl⟩, rfl⟩
  | succ i => exact ⟨rfl, .wait (chainX deep (i + 1)) env, .inr ⟨by omega, rfl⟩, rfl⟩

/-- a chain's pair: two cells more -/
theorem eval_chain {fuel n : Nat} (deep : Bool) (env : Env) (i : Nat) (s : S) (hs : s.steps < fuel) : ∃ c d, evalA fuel (n + 1) (chainX deep (i + 1)) env s = some (.val (.pair s.cells.length (s.cells.length + 1)) ⟨s.cells ++ [c, d], s.steps + 1, s.uses⟩) ∧
    (if deep then isChain deep env i c ∧ d = .done (.atom 3 emptyT) else c = .done (.atom 1 [49]) ∧ isChain deep env i d) := by
  have ht : ¬ s.tick.steps > fuel := by simp only [S.tick]; omega
  cases deep with
  | true =>
    obtain ⟨h1, c, h2, h3⟩ := arg_chain true env i s.tick
    refine ⟨c, .done (.atom 3 emptyT), ?_, h2, rfl⟩
    rw [chainX, evalA_s, if_neg ht]
    show some (O.val (V.pair (argA (chainX true i) env s.tick).1 (argA nilK env (argA (chainX true i) env s.tick).2).1) (argA nilK env (argA (chainX true i) env s.tick).2).2) = _
    rw [h1, h3]
    simp [nilK, argA, S.new, constV, S.tick]
  | false =>
    obtain ⟨h1, c, h2, h3⟩ := arg_chain false env i ⟨s.cells ++ [.done (.atom 1 [49])], s.steps + 1, s.uses⟩
    refine ⟨.done (.atom 1 [49]), c, ?_, rfl, h2⟩
    rw [chainX, evalA_s, if_neg ht]
    show some (O.val (V.pair (argA oneK env s.tick).1 (argA (chainX false i) env (argA oneK env s.tick).2).1) (argA (chainX false i) env (argA oneK env s.tick).2).2) = _
    have e : argA oneK env s.tick = (s.cells.length, ⟨s.cells ++ [.done (.atom 1 [49])], s.steps + 1, s.uses⟩) := rfl
    rw [e]
    simp only []
    rw [h1, h3]
    simp

/-- a long row -/
theorem flat_row (fuel : Nat) (env : Env) : ∀ (i n : Nat) (out : Str) (a b : Nat) (s : S) (c : C), s.cells[a]? = some (.done (.atom 1 [49])) → s.cells[b]? = some c → isChain false env i c → s.steps + i ≤ fuel → i + 4 ≤ n → out.length ≤ 2000 →
    (out.length + 2 * i + 2 ≤ 2000 → ∃ o s', rowA fuel n out a b s = some (.val o s') ∧ o.length = out.length + 2 * i + 2) ∧ (2000 < out.length + 2 * i + 2 → ∃ s', rowA fuel n out a b s = some (.stop 7 [] s')) := by
  intro i
  induction i with
  | zero =>
    intro n out a b s c ha hb hc hs hn ho
    obtain ⟨n, rfl⟩ : ∃ k, n = k + 2 := ⟨n - 2, by omega⟩
    have hc : c = .done (.atom 3 emptyT) := by
      rcases hc with ⟨_, h⟩ | ⟨h, _⟩
      · exact h
      · omega
    subst hc
    rw [rowA, force_done ha]
    simp only [Option.bind_some, O.bind, print_atom]
    by_cases h1 : out.length + 1 ≤ 2000
    · rw [say_ok (by simpa using h1)]
      simp only [force_done hb, Option.bind_some, V.kind, if_true]
      by_cases h2 : out.length + 2 ≤ 2000
      · rw [say_ok (by simp; omega)]
        exact ⟨fun _ => ⟨_, _, rfl, by simp⟩, fun h => by omega⟩
      · rw [say_no (by simp; omega)]
        exact ⟨fun h => by omega, fun _ => ⟨_, rfl⟩⟩
    · rw [say_no (by simp; omega)]
      exact ⟨fun h => by omega, fun _ => ⟨_, rfl⟩⟩
  | succ i ih =>
    intro n out a b s c ha hb hc hs hn ho
    obtain ⟨n, rfl⟩ : ∃ k, n = k + 3 := ⟨n - 3, by omega⟩
    have hc : c = .wait (chainX false (i + 1)) env := by
      rcases hc with ⟨h, _⟩ | ⟨_, h⟩
      · omega
      · exact h
    subst hc
    rw [rowA, force_done ha]
    simp only [Option.bind_some, O.bind, print_atom]
    by_cases h1 : out.length + 1 ≤ 2000
    · rw [say_ok (by simpa using h1)]
      simp only [Option.bind_some]
      have hbl : b < s.cells.length := (List.getElem?_eq_some_iff.1 hb).1
      obtain ⟨s1, hs1⟩ : ∃ s1, s1 = (s.set b (.busy (chainX false (i + 1)) env)).used := ⟨_, rfl⟩
      have hl1 : s1.cells.length = s.cells.length := by rw [hs1]; simp [S.set, S.used]
      have hst : s1.steps = s.steps := by rw [hs1]; rfl
      obtain ⟨c2, d2, he, h3, h4⟩ := eval_chain (n := n) false env i s1 (by omega : s1.steps < fuel)
      have hf : forceA fuel (n + 2) b s = some (.val (.pair s1.cells.length (s1.cells.length + 1)) (S.set ⟨s1.cells ++ [c2, d2], s1.steps + 1, s1.uses⟩ b (.done (.pair s1.cells.length (s1.cells.length + 1))))) := by
        rw [forceA, hb]
        simp only []
        rw [← hs1, he]; rfl
      rw [hf]
      simp only [Option.bind_some]
      obtain ⟨s2, hs2⟩ : ∃ s2, s2 = S.set ⟨s1.cells ++ [c2, d2], s1.steps + 1, s1.uses⟩ b (.done (.pair s1.cells.length (s1.cells.length + 1))) := ⟨_, rfl⟩
      have g1 : s2.cells[s1.cells.length]? = some (.done (.atom 1 [49])) := by
        rw [hs2, ← h3]
        simp only [S.set]
        rw [List.getElem?_set_ne (by omega), List.getElem?_append_right (Nat.le_refl _), Nat.sub_self]; rfl
      have g2 : s2.cells[s1.cells.length + 1]? = some d2 := by
        rw [hs2]
        simp only [S.set]
        rw [List.getElem?_set_ne (by omega), List.getElem?_append_right (by omega), Nat.add_sub_cancel_left]; rfl
      have g3 : s2.steps = s.steps + 1 := by rw [hs2]; simp only [S.set]; omega
      rw [← hs2]
      by_cases h2 : out.length + 2 ≤ 2000
      · rw [say_ok (by simp; omega)]
        simp only []
        obtain ⟨r1, r2⟩ := ih (n + 2) ((out ++ [49]) ++ [32]) s1.cells.length (s1.cells.length + 1) s2 d2 g1 g2 h4 (by omega) (by omega) (by simp; omega)
        simp only [List.length_append, List.length_cons, List.length_nil] at r1 r2
        refine ⟨fun h => ?_, fun h => r2 (by omega)⟩
        obtain ⟨o, s', e, hl⟩ := r1 (by omega)
        exact ⟨o, s', e, by omega⟩
      · rw [say_no (by simp; omega)]
        exact ⟨fun h => by omega, fun _ => ⟨_, rfl⟩⟩
    · rw [say_no (by simp; omega)]
      exact ⟨fun h => by omega, fun _ => ⟨_, rfl⟩⟩

/-- a deep row: what was known stays -/
theorem deep_print (fuel : Nat) (env : Env) : ∀ (i n : Nat) (out : Str) (s : S) (c : C) (a : Nat), s.cells[a]? = some c → isChain true env i c → s.steps + i ≤ fuel → 2 * i + 4 ≤ n → out.length ≤ 2000 →
    (out.length + 2 * i + 2 ≤ 2000 → ∃ v s1 o s', forceA fuel n a s = some (.val v s1) ∧ printA fuel n out v s1 = some (.val o s') ∧ o.length = out.length + 2 * i + 2 ∧ (∀ (j : Nat) (w : V), s.cells[j]? = some (.done w) → s'.cells[j]? = some (.done w))) ∧
    (2000 < out.length + 2 * i + 2 → ∃ v s1 s', forceA fuel n a s = some (.val v s1) ∧ printA fuel n out v s1 = some (.stop 7 [] s')) := by
  intro i
  induction i with
  | zero =>
    intro n out s c a ha hc hs hn ho
    obtain ⟨n, rfl⟩ : ∃ k, n = k + 1 := ⟨n - 1, by omega⟩
    have hc : c = .done (.atom 3 emptyT) := by
      rcases hc with ⟨_, h⟩ | ⟨h, _⟩
      · exact h
      · omega
    subst hc
    rw [force_done ha]
    by_cases h2 : out.length + 2 ≤ 2000
    · refine ⟨fun _ => ⟨_, _, out ++ emptyT, s, rfl, by rw [print_atom, say_ok (by simpa [emptyT] using h2)], by simp [emptyT], fun j w h => h⟩, fun h => by omega⟩
    · refine ⟨fun h => by omega, fun _ => ⟨_, _, s, rfl, by rw [print_atom, say_no (by simp [emptyT]; omega)]⟩⟩
  | succ i ih =>
    intro n out s c a ha hc hs hn ho
    obtain ⟨n, rfl⟩ : ∃ k, n = k + 2 := ⟨n - 2, by omega⟩
    have hc : c = .wait (chainX true (i + 1)) env := by
      rcases hc with ⟨h, _⟩ | ⟨_, h⟩
      · omega
      · exact h
    subst hc
    have hal : a < s.cells.length := (List.getElem?_eq_some_iff.1 ha).1
    obtain ⟨s0', hs0⟩ : ∃ s1, s1 = (s.set a (.busy (chainX true (i + 1)) env)).used := ⟨_, rfl⟩
    have hlen : s0'.cells.length = s.cells.length := by rw [hs0]; simp [S.set, S.used]
    have hst0 : s0'.steps = s.steps := by rw [hs0]; rfl
    obtain ⟨c2, d2, he, h3, h4⟩ := eval_chain (n := n) true env i s0' (by omega : s0'.steps < fuel)
    obtain ⟨s1, hS⟩ : ∃ s1, s1 = S.set ⟨s0'.cells ++ [c2, d2], s0'.steps + 1, s0'.uses⟩ a (.done (.pair s.cells.length (s.cells.length + 1))) := ⟨_, rfl⟩
    have hf : forceA fuel (n + 2) a s = some (.val (.pair s.cells.length (s.cells.length + 1)) s1) := by
      rw [forceA, ha]
      simp only []
      rw [← hs0, he, hS, hlen]; rfl
    rw [hf]
    have hst : s1.steps = s.steps + 1 := by rw [hS]; simp only [S.set]; omega
    have g1 : s1.cells[s.cells.length]? = some c2 := by
      rw [hS]
      simp only [S.set]
      rw [List.getElem?_set_ne (by omega), List.getElem?_append_right (by omega), hlen, Nat.sub_self]; rfl
    have g2 : s1.cells[s.cells.length + 1]? = some (.done (.atom 3 emptyT)) := by
      rw [hS, ← h4]
      simp only [S.set]
      rw [List.getElem?_set_ne (by omega), List.getElem?_append_right (by omega), hlen, Nat.add_sub_cancel_left]; rfl
    have gk : ∀ (j : Nat) (w : V), s.cells[j]? = some (.done w) → s1.cells[j]? = some (.done w) := by
      intro j w hj
      have hjl : j < s.cells.length := (List.getElem?_eq_some_iff.1 hj).1
      have hja : a ≠ j := by rintro rfl; rw [ha] at hj; cases hj
      rw [hS]
      simp only [S.set]
      rw [List.getElem?_set_ne hja, List.getElem?_append_left (by rw [hlen]; exact hjl), hs0]
      simp only [S.used, S.set]
      rw [List.getElem?_set_ne hja]; exact hj
    by_cases h1 : out.length + 1 ≤ 2000
    · obtain ⟨r1, r2⟩ := ih n (out ++ [40]) s1 c2 s.cells.length g1 h3 (by omega) (by omega) (by simpa using h1)
      simp only [List.length_append, List.length_cons, List.length_nil] at r1 r2
      have hp : ∀ (o : O Str), rowA fuel (n + 1) (out ++ [40]) s.cells.length (s.cells.length + 1) s1 = some o → printA fuel (n + 2) out (.pair s.cells.length (s.cells.length + 1)) s1 = some o := by
        intro o h
        rw [printA_s]
        simp only []
        rw [say_ok (by simpa using h1)]
        exact h
      by_cases h5 : out.length + 1 + 2 * i + 2 ≤ 2000
      · obtain ⟨v, s2, o, s3, q1, q2, q3, q4⟩ := r1 (by omega)
        have hrow : rowA fuel (n + 1) (out ++ [40]) s.cells.length (s.cells.length + 1) s1 = some (sayA o [41] s3) := by
          have hn1 : ∃ k, n = k + 1 := ⟨n - 1, by omega⟩
          obtain ⟨k, rfl⟩ := hn1
          rw [rowA, q1]; simp only [Option.bind_some, O.bind]; rw [q2]; simp only [Option.bind_some, O.bind]; rw [force_done (q4 _ _ g2)]; rfl
        refine ⟨fun h => ?_, fun h => ?_⟩
        · refine ⟨_, _, o ++ [41], s3, rfl, hp _ (by rw [hrow, say_ok (by simp; omega)]), by simp; omega, fun j w hj => q4 _ _ (gk _ _ hj)⟩
        · exact ⟨_, _, s3, rfl, hp _ (by rw [hrow, say_no (by simp; omega)])⟩
      · obtain ⟨v, s2, s3, q1, q2⟩ := r2 (by omega)
        refine ⟨fun h => by omega, fun h => ⟨_, _, s3, rfl, hp _ ?_⟩⟩
        rw [rowA, q1]; simp only [Option.bind_some, O.bind]; rw [q2]; rfl
    · refine ⟨fun h => by omega, fun h => ⟨_, _, s1, rfl, ?_⟩⟩
      rw [printA_s]
      simp only []
      rw [say_no (by simp; omega)]; rfl

/-- a row that holds itself -/
theorem ring_row (fuel : Nat) {a b : Nat} {s : S} (ha : s.cells[a]? = some (.done (.atom 1 [49]))) (hb : s.cells[b]? = some (.done (.pair a b))) : ∀ (m n : Nat) (out : Str), 2000 < out.length + 2 * m → m + 3 ≤ n → rowA fuel n out a b s = some (.stop 7 [] s) := by
  intro m
  induction m with
  | zero =>
    intro n out h hn
    obtain ⟨n, rfl⟩ : ∃ k, n = k + 2 := ⟨n - 2, by omega⟩
    rw [rowA, force_done ha]
    simp only [Option.bind_some, O.bind, print_atom]
    rw [say_no (by simp; omega)]
  | succ m ih =>
    intro n out h hn
    obtain ⟨n, rfl⟩ : ∃ k, n = k + 2 := ⟨n - 2, by omega⟩
    rw [rowA, force_done ha]
    simp only [Option.bind_some, O.bind, print_atom]
    by_cases h1 : out.length + 1 ≤ 2000
    · rw [say_ok (by simpa using h1)]
      simp only [force_done hb, Option.bind_some]
      by_cases h2 : out.length + 2 ≤ 2000
      · rw [say_ok (by simp; omega)]
        exact ih (n + 1) _ (by simp; omega) (by omega)
      · rw [say_no (by simp; omega)]
    · rw [say_no (by simp; omega)]

def ringX : X := .mk 9 [] [[120]] [.mk 10 consP [] [oneK, .mk 5 [120] [] []], .mk 5 [120] [] []]
theorem ring_out (n : Nat) (hn : 2000 ≤ n) : ∃ s, outA n ringX [] 10000 = some (.stop 7 [] s) := by
  obtain ⟨n, rfl⟩ : ∃ k, n = k + 6 := ⟨n - 6, by omega⟩
  have he : evalA 10000 (n + 6) ringX [(inputT, (inputA [] ⟨[], 0, 0⟩).1)] (inputA [] ⟨[], 0, 0⟩).2 = some (.val (.pair 2 1) ⟨[.done (.atom 3 emptyT), .done (.pair 2 1), .done (.atom 1 [49])], 3, 1⟩) := by
    simp [ringX, oneK, inputA, S.new, evalA_s, evalF, S.tick, S.more, letEnv, lookA, forceA, S.set, S.used, prim2F, argA, constV, O.bind, inputT]
  unfold outA
  rw [he]
  simp only [Option.bind_some, O.bind]
  rw [printA_s]
  simp only []
  rw [say_ok (by simp)]
  exact ⟨_, ring_row 10000 (a := 2) (b := 1) rfl rfl 1000 (n + 5) _ (by simp) (by omega)⟩

theorem flat_out (k n : Nat) (hk : k + 1 ≤ 10000) (hn : 20010 ≤ n) (h1 : 1 ≤ k) :
    (2 * k + 1 ≤ 2000 → ∃ o s, outA n (chainX false k) [] 10000 = some (.val o s) ∧ o.length = 2 * k + 1) ∧ (2000 < 2 * k + 1 → ∃ s, outA n (chainX false k) [] 10000 = some (.stop 7 [] s)) := by
  obtain ⟨i, rfl⟩ : ∃ i, k = i + 1 := ⟨k - 1, by omega⟩
  obtain ⟨n, rfl⟩ : ∃ k, n = k + 2 := ⟨n - 2, by omega⟩
  obtain ⟨c, d, he, h3, h4⟩ := eval_chain (fuel := 10000) (n := n + 1) false [(inputT, (inputA [] ⟨[], 0, 0⟩).1)] i (inputA [] ⟨[], 0, 0⟩).2 (by decide)
  unfold outA
  rw [he]
  simp only [Option.bind_some, O.bind]
  rw [printA_s]
  simp only []
  rw [say_ok (by simp)]
  skip
  subst h3
  obtain ⟨r1, r2⟩ := flat_row 10000 [(inputT, (inputA [] ⟨[], 0, 0⟩).1)] i (n + 1) ([] ++ [40]) 1 2 ⟨(inputA [] ⟨[], 0, 0⟩).2.cells ++ [.done (.atom 1 [49]), d], (inputA [] ⟨[], 0, 0⟩).2.steps + 1, (inputA [] ⟨[], 0, 0⟩).2.uses⟩ d rfl rfl h4 (by show 0 + 1 + i ≤ 10000; omega) (by omega) (by simp)
  simp only [List.length_append, List.length_cons, List.length_nil] at r1 r2
  refine ⟨fun h => ?_, fun h => r2 (by omega)⟩
  obtain ⟨o, s', e, hl⟩ := r1 (by omega)
  exact ⟨o, s', e, by omega⟩

theorem deep_out (k n : Nat) (hk : k + 1 ≤ 10000) (hn : 20010 ≤ n) (h1 : 1 ≤ k) :
    (2 * k + 2 ≤ 2000 → ∃ o s, outA n (chainX true k) [] 10000 = some (.val o s) ∧ o.length = 2 * k + 2) ∧ (2000 < 2 * k + 2 → ∃ s, outA n (chainX true k) [] 10000 = some (.stop 7 [] s)) := by
  obtain ⟨i, rfl⟩ : ∃ i, k = i + 1 := ⟨k - 1, by omega⟩
  obtain ⟨n, rfl⟩ : ∃ k, n = k + 2 := ⟨n - 2, by omega⟩
  obtain ⟨c, d, he, h3, h4⟩ := eval_chain (fuel := 10000) (n := n + 1) true [(inputT, (inputA [] ⟨[], 0, 0⟩).1)] i (inputA [] ⟨[], 0, 0⟩).2 (by decide)
  unfold outA
  rw [he]
  simp only [Option.bind_some, O.bind]
  subst h4
  obtain ⟨r1, r2⟩ := deep_print 10000 [(inputT, (inputA [] ⟨[], 0, 0⟩).1)] i n ([] ++ [40]) ⟨(inputA [] ⟨[], 0, 0⟩).2.cells ++ [c, .done (.atom 3 emptyT)], (inputA [] ⟨[], 0, 0⟩).2.steps + 1, (inputA [] ⟨[], 0, 0⟩).2.uses⟩ c 1 rfl h3 (by show 0 + 1 + i ≤ 10000; omega) (by omega) (by simp)
  simp only [List.length_append, List.length_cons, List.length_nil] at r1 r2
  rw [printA_s]
  simp only []
  rw [say_ok (by simp)]
  skip
  show (_ → ∃ o s, rowA 10000 (n + 1) ([] ++ [40]) 1 2 _ = _ ∧ _) ∧ (_ → ∃ s, rowA 10000 (n + 1) ([] ++ [40]) 1 2 _ = _)
  by_cases h5 : 0 + 1 + 2 * i + 2 ≤ 2000
  · obtain ⟨v, s2, o, s3, q1, q2, q3, q4⟩ := r1 h5
    have hrow : rowA 10000 (n + 1) ([] ++ [40]) 1 2 ⟨(inputA [] ⟨[], 0, 0⟩).2.cells ++ [c, .done (.atom 3 emptyT)], (inputA [] ⟨[], 0, 0⟩).2.steps + 1, (inputA [] ⟨[], 0, 0⟩).2.uses⟩ = some (sayA o [41] s3) := by
      obtain ⟨k, rfl⟩ : ∃ k, n = k + 1 := ⟨n - 1, by omega⟩
      rw [rowA, q1]; simp only [Option.bind_some, O.bind]; rw [q2]; simp only [Option.bind_some, O.bind]; rw [force_done (q4 2 _ rfl)]; rfl
    rw [hrow]
    refine ⟨fun h => ?_, fun h => ?_⟩
    · exact ⟨o ++ [41], s3, by rw [say_ok (by simp; omega)], by simp; omega⟩
    · exact ⟨s3, by rw [say_no (by simp; omega)]⟩
  · obtain ⟨v, s2, s3, q1, q2⟩ := r2 (by omega)
    refine ⟨fun h => by omega, fun h => ⟨s3, ?_⟩⟩
    rw [rowA, q1]; simp only [Option.bind_some, O.bind]; rw [q2]; rfl

end
end Go.Lite

/-
  Pairs in pairs, as they lie in rows; they are told as content.
-/
namespace Go.Lite
open Go Go.Proofs
set_option maxRecDepth 100000
set_option linter.unusedSimpArgs false
set_option linter.unusedVariables false

/-- the i-th of a chain, its parts A -/
def headC (i : Nat) (A : AV) : List AV := match i with
  | 0 => [.int .i64 3, .str [], .nils, A]
  | _ + 1 => [.int .i64 10, .str [99, 111, 110, 115], .nils, A]
def nilC : List AV := [.int .i64 3, .str [], .nils, .nils]
def oneC : List AV := [.int .i64 1, .str [49], .nils, .nils]
def pairC (dp : Bool) (i : Nat) (A : AV) : List AV := bif dp then headC i A ++ nilC else oneC ++ headC i A
def empC : AV := .lst 0 0 true []
def firstC (dp : Bool) : List AV := [bif dp then .int .i64 3 else .int .i64 1, .str (bif dp then [] else [49]), empC, empC, .int .i64 3, .str [], empC, empC]

inductive Nest (dp : Bool) (H : Heap) : Nat → AV → Nat → Prop where
  | zero {b : Nat} : 1 ≤ b → Nest dp H 0 .nils b
  | one {b : Nat} : 1 ≤ b → Nest dp H 1 (.lst 4 2 true (firstC dp)) b
  | more {i : Nat} {A : AV} {b r c : Nat} : Nest dp H (i + 1) A b → b ≤ r → r < c → H.t.get r = some (.row (pairC dp (i + 1) A) 0 false none) → Nest dp H (i + 2) (.slice (.new r) 0 2 (.fix 2 4)) c

theorem headC_len (i : Nat) (A : AV) : (headC i A).length = 4 := by cases i <;> rfl
theorem pairC_len (dp : Bool) (i : Nat) (A : AV) : (pairC dp i A).length = 8 := by
  cases dp <;> simp [pairC, headC_len, nilC, oneC]

theorem Nest.flat {dp : Bool} {H : Heap} {i : Nat} {A : AV} {b : Nat} (h : Nest dp H i A b) : A.flat = true := by cases h <;> rfl
theorem Nest.le {dp : Bool} {H : Heap} {i : Nat} {A : AV} {b : Nat} (h : Nest dp H i A b) : 1 ≤ b := by
  induction h with
  | zero h => exact h
  | one h => exact h
  | more _ h1 h2 _ ih => omega
theorem Nest.keep {dp : Bool} {H H' : Heap} {i : Nat} {A : AV} {b : Nat} (h : Nest dp H i A b) (k : ∀ j, 1 ≤ j → j < b → H'.t.get j = H.t.get j) : Nest dp H' i A b := by
  induction h with
  | zero h => exact .zero h
  | one h => exact .one h
  | more c h1 h2 g ih =>
    have := c.le
    exact .more (ih fun j h3 h4 => k j h3 (by omega)) h1 h2 (by rw [k _ (by omega) (by omega)]; exact g)
theorem Nest.wide {dp : Bool} {H : Heap} {i : Nat} {A : AV} {b c : Nat} (h : Nest dp H i A b) (hc : b ≤ c) : Nest dp H i A c := by
  cases h with
  | zero h => exact .zero (by omega)
  | one h => exact .one (by omega)
  | more n h1 h2 g => exact .more n h1 (by omega) g

/-- such a chain is told as content -/
theorem Nest.shut {dp : Bool} : ∀ {i : Nat} {H : Heap} {A : AV} {b : Nat}, Nest dp H i A b → ∀ d, i ≤ d → HLow H →
    ∃ H', mapHM (shutC d) (headC i A) H = some ((chainX dp i).cells, H') ∧ (∀ j, b ≤ j → H'.t.get j = H.t.get j) ∧ H'.n = H.n ∧ HLow H'
  | 0, H, A, b, h, d, hd, low => by
    cases h with
    | zero h => exact ⟨H, by rw [headC, chainX, nilK, X.cells_mk]; simp only [mapHM_cons, mapHM_nil, shutC_int, shutC_str, shutC_nils, Option.bind_some, Option.map_some]; rfl, fun _ _ => rfl, rfl, low⟩
  | 1, H, A, b, h, d, hd, low => by
    cases h with
    | one h =>
      refine ⟨H, ?_, fun _ _ => rfl, rfl, low⟩
      rw [headC, chainX, X.cells_mk]
      cases dp <;> simp only [mapHM_cons, mapHM_nil, shutC_int, shutC_str, shutC_nils, shutC_lstF, Option.bind_some, Option.map_some] <;> rfl
  | i + 2, H, A, b, h, d, hd, low => by
    cases h with
    | @more _ A b r c n h1 h2 g =>
      obtain ⟨d, rfl⟩ : ∃ d', d = d' + 1 := ⟨d - 1, by omega⟩
      have hr : r < H.n := low _ _ g
      have hl := n.le
      have low1 : HLow (H.put r (.row (pairC dp (i + 1) A) 0 true none)) := low.put hr
      have c1 : Nest dp (H.put r (.row (pairC dp (i + 1) A) 0 true none)) (i + 1) A b := n.keep fun j h3 h4 => by rw [h_gput, if_neg (by omega)]
      obtain ⟨H', e1, e2, e3, e4⟩ := Nest.shut c1 d (by omega) low1
      have ht : (pairC dp (i + 1) A).take (2 * 4) = pairC dp (i + 1) A := by
        have := pairC_len dp (i + 1) A
        rw [List.take_of_length_le (by omega)]
      refine ⟨H', ?_, fun j hj => ?_, by rw [e3]; simp [h_nput], e4⟩
      · have hs : shutC (d + 1) (.slice (.new r) 0 2 (.fix 2 4)) H = some (vXs (if dp then [chainX dp (i + 1), nilK] else [oneK, chainX dp (i + 1)]), H') := by
          have hm : mapHM (shutC d) (pairC dp (i + 1) A) (H.put r (.row (pairC dp (i + 1) A) 0 true none)) = some ((if dp then (chainX dp (i + 1)).cells ++ nilK.cells else oneK.cells ++ (chainX dp (i + 1)).cells), H') := by
            have en : ∀ G, mapHM (shutC d) nilC G = some (nilK.cells, G) := fun G => by
              show mapHM (shutC d) [.int .i64 3, .str [], .nils, .nils] G = _
              rw [nilK, X.cells_mk]; simp only [mapHM_cons, mapHM_nil, shutC_int, shutC_str, shutC_nils, Option.bind_some, Option.map_some]; rfl
            have eo : ∀ G, mapHM (shutC d) oneC G = some (oneK.cells, G) := fun G => by
              show mapHM (shutC d) [.int .i64 1, .str [49], .nils, .nils] G = _
              rw [oneK, X.cells_mk]; simp only [mapHM_cons, mapHM_nil, shutC_int, shutC_str, shutC_nils, Option.bind_some, Option.map_some]; rfl
            cases dp with
            | true => exact mapHM_append e1 (en _)
            | false => exact mapHM_append (eo _) e1
          simp only [shutC, g, shutRow, List.drop_zero, Cap.es]
          rw [ht, if_pos ⟨pairC_len _ _ _, .inr (by decide)⟩, hm]
          cases dp with
          | true => simp only [if_true, vXs_two]; rfl
          | false => simp only [Bool.false_eq_true, if_false, vXs_two]; rfl
        rw [headC, chainX, X.cells_mk]
        simp only [mapHM_cons, mapHM_nil, shutC_int, shutC_str, shutC_nils, hs, Option.bind_some, Option.map_some]
        rfl
      · rw [e2 j (by omega), h_gput, if_neg (by omega)]

theorem num1_ok : numOk 1 [49] := ⟨⟨by simp, by simp⟩, fun _ => ⟨1, by decide, by rw [show (1 : Int) = ((1 : Nat) : Int) from rfl, decZ_nonneg, decN_small (by omega)]⟩⟩
theorem nilK_tame : nilK.tame := ⟨⟨⟨by simp, by simp⟩, fun h => absurd h (by decide)⟩, by simp, by simp, trivial⟩
theorem oneK_tame : oneK.tame := ⟨num1_ok, by simp, by simp, trivial⟩
theorem chain_tame (dp : Bool) : ∀ i, (chainX dp i).tame
  | 0 => nilK_tame
  | i + 1 => by
    rw [chainX]
    cases dp with
    | true => exact ⟨⟨⟨by decide, by decide⟩, fun h => absurd h (by decide)⟩, by simp, by simp, chain_tame true i, nilK_tame, trivial⟩
    | false => exact ⟨⟨⟨by decide, by decide⟩, fun h => absurd h (by decide)⟩, by simp, by simp, oneK_tame, chain_tame false i, trivial⟩
theorem ring_tame : ringX.tame :=
  have hx : numOk 5 [120] := ⟨⟨by simp, by simp⟩, fun h => absurd h (by decide)⟩
  have tx : (X.mk 5 [120] [] []).tame := ⟨hx, by simp, by simp, trivial⟩
  ⟨⟨⟨by simp, by simp⟩, fun h => absurd h (by decide)⟩, by simp, by simp, ⟨⟨⟨by decide, by decide⟩, fun h => absurd h (by decide)⟩, by simp, by simp, oneK_tame, tx, trivial⟩, tx, trivial⟩

/-- what Eval tells of a chain -/
theorem chain_told (dp : Bool) (N : Nat) (h1 : 1 ≤ N) (h2 : N ≤ 1100) : ∃ o : O Str, outA 20010 (chainX dp N) [] 10000 = some o ∧
    (2000 < 2 * N + (if dp then 2 else 1) → o.kind = 7) ∧ (2 * N + (if dp then 2 else 1) ≤ 2000 → o.kind = 1 ∧ o.txt.length = 2 * N + (if dp then 2 else 1)) := by
  cases dp with
  | true =>
    simp only [if_true]
    obtain ⟨r1, r2⟩ := deep_out N 20010 (by omega) (by omega) h1
    by_cases h : 2 * N + 2 ≤ 2000
    · obtain ⟨o, s, e, hl⟩ := r1 h
      exact ⟨_, e, fun h' => by omega, fun _ => ⟨rfl, hl⟩⟩
    · obtain ⟨s, e⟩ := r2 (by omega)
      exact ⟨_, e, fun _ => rfl, fun h' => by omega⟩
  | false =>
    simp only [Bool.false_eq_true, if_false]
    obtain ⟨r1, r2⟩ := flat_out N 20010 (by omega) (by omega) h1
    by_cases h : 2 * N + 1 ≤ 2000
    · obtain ⟨o, s, e, hl⟩ := r1 h
      exact ⟨_, e, fun h' => by omega, fun _ => ⟨rfl, hl⟩⟩
    · obtain ⟨s, e⟩ := r2 (by omega)
      exact ⟨_, e, fun _ => rfl, fun h' => by omega⟩

end Go.Lite

/-
  The slimmed code of the functions, printed by program, and that it is what is computed from the program.
-/
namespace Go.Lite
open Go Go.Proofs
set_option maxRecDepth 100000
-- thunk/thunklaw10.NaturalPrints
def c6_l0 : SCode :=
  (.seq (.seq (.ops [.mk (some 24) none (.p (.move (.tmp 7))), .mk (some 25) none (.p (.move (.tmp 5))), .mk (some 26) none (.p (.bin .lss .none (.tmp 24) (.tmp 25)))])
  (.cond (.tmp 26)
  .skip
  (.exit 0)))
  (.seq (.block 1 (.seq (.ops [.mk (some 29) none (.p (.build [.int IntKind.i64 0, .str [], .nils, .nils] [(0, 1, .lit (.int IntKind.i64 1)), (1, 1, .lit (.str [49]))])), .mk (some 8) none (.a (.newc 28 [.int IntKind.i64 0, .str [], .nils, .nils])), .mk none none (.w (.store 4 (.tmp 8) (.tmp 29)))])
  (.seq (.ops [.mk (some 30) none (.p (.move (.tmp 1)))])
  (.cond (.tmp 30)
  (.ops [.mk (some 31) none (.p (.loadn 4 (.tmp 6))), .mk (some 32) none (.p (.build [.int IntKind.i64 0, .str [], .nils, .nils] [(0, 1, .lit (.int IntKind.i64 3))])), .mk (some 33) none (.a (.buildS [.int IntKind.i64 0, .str [], .nils, .nils, .int IntKind.i64 0, .str [], .nils, .nils] 2 [(0, 4, .tmp 31), (4, 4, .tmp 32)])), .mk (some 34) none (.p (.build [.int IntKind.i64 0, .str [], .nils, .nils] [(0, 1, .lit (.int IntKind.i64 10)), (1, 1, .lit (.str [99, 111, 110, 115])), (3, 1, .tmp 33)])), .mk none none (.w (.store 4 (.tmp 6) (.tmp 34)))])
  (.ops [.mk (some 35) none (.p (.loadn 4 (.tmp 8))), .mk (some 36) none (.p (.loadn 4 (.tmp 6))), .mk (some 37) none (.a (.buildS [.int IntKind.i64 0, .str [], .nils, .nils, .int IntKind.i64 0, .str [], .nils, .nils] 2 [(0, 4, .tmp 35), (4, 4, .tmp 36)])), .mk (some 38) none (.p (.build [.int IntKind.i64 0, .str [], .nils, .nils] [(0, 1, .lit (.int IntKind.i64 10)), (1, 1, .lit (.str [99, 111, 110, 115])), (3, 1, .tmp 37)])), .mk none none (.w (.store 4 (.tmp 6) (.tmp 38)))])))))
  (.ops [.mk (some 27) none (.p (.move (.tmp 7))), .mk (some 28) none (.p (.bin .add .none (.tmp 27) (.lit (.int IntKind.i64 1)))), .mk (some 7) none (.p (.move (.tmp 28)))])))
def c6 : SFunc := ⟨88, (.seq (.ops [.mk (some 4) none (.p (.move (.lit (.bool false))))])
  (.seq (.seq (.ops [.mk (some 18) none (.call (.lit (.func 11 [])) []), .mk (some 19) none (.p (.not (.tmp 18)))])
  (.cond (.tmp 19)
  (.seq (.ops [.mk (some 4) none (.p (.move (.lit (.bool false))))])
  .ret)
  .skip))
  (.seq (.ops [.mk (some 20) none (.p (.move (.tmp 0))), .mk (some 21) none (.call (.lit (.func 15 [])) [.tmp 20, .lit (.int IntKind.i64 200)]), .mk (some 22) none (.p (.bin .add .none (.lit (.int IntKind.i64 900)) (.tmp 21))), .mk (some 5) none (.p (.move (.tmp 22)))])
  (.seq (.ops [.mk (some 23) none (.p (.build [.int IntKind.i64 0, .str [], .nils, .nils] [(0, 1, .lit (.int IntKind.i64 3))])), .mk (some 6) none (.a (.newc 28 [.int IntKind.i64 0, .str [], .nils, .nils])), .mk none none (.w (.store 4 (.tmp 6) (.tmp 23)))])
  (.seq (.seq (.ops [.mk (some 7) none (.p (.move (.lit (.int IntKind.i64 0))))])
  (.block 0 (.loop c6_l0)))
  (.seq (.ops [.mk (some 39) none (.p (.move (.tmp 5))), .mk (some 40) none (.p (.bin .mul .none (.lit (.int IntKind.i64 2)) (.tmp 39))), .mk (some 41) none (.p (.bin .add .none (.tmp 40) (.lit (.int IntKind.i64 1)))), .mk (some 9) none (.p (.move (.tmp 41)))])
  (.seq (.seq (.ops [.mk (some 42) none (.p (.move (.tmp 1)))])
  (.cond (.tmp 42)
  (.ops [.mk (some 43) none (.p (.move (.tmp 5))), .mk (some 44) none (.p (.bin .mul .none (.lit (.int IntKind.i64 2)) (.tmp 43))), .mk (some 45) none (.p (.bin .add .none (.tmp 44) (.lit (.int IntKind.i64 2)))), .mk (some 9) none (.p (.move (.tmp 45)))])
  .skip))
  (.seq (.ops [.mk (some 47) none (.p (.loadn 4 (.tmp 6))), .mk (some 48) none (.call (.lit (.func 14 [])) [.tmp 47, .lit .nils, .lit (.int IntKind.i64 10000)]), .mk (some 46) none (.p (.move (.tmp 48))), .mk (some 49) none (.p (.extract (.tmp 46) 0)), .mk (some 50) none (.p (.extract (.tmp 46) 1)), .mk (some 51) none (.p (.extract (.tmp 46) 2)), .mk (some 10) none (.a (.newc 31 [.int IntKind.i64 0, .str [], .int IntKind.i64 0])), .mk none none (.w (.store 3 (.tmp 10) (.tmp 49))), .mk (some 11) none (.p (.move (.tmp 50))), .mk (some 12) none (.p (.move (.tmp 51)))])
  (.seq (.ops [.mk (some 52) none (.call (.lit (.func 17 [])) [.lit (.str [120])]), .mk (some 13) none (.a (.newc 28 [.int IntKind.i64 0, .str [], .nils, .nils])), .mk none none (.w (.store 4 (.tmp 13) (.tmp 52)))])
  (.seq (.ops [.mk (some 53) none (.p (.build [.int IntKind.i64 0, .str [], .nils, .nils] [(0, 1, .lit (.int IntKind.i64 1)), (1, 1, .lit (.str [49]))])), .mk (some 54) none (.p (.loadn 4 (.tmp 13))), .mk (some 55) none (.a (.buildS [.int IntKind.i64 0, .str [], .nils, .nils, .int IntKind.i64 0, .str [], .nils, .nils] 2 [(0, 4, .tmp 53), (4, 4, .tmp 54)])), .mk (some 56) none (.p (.build [.int IntKind.i64 0, .str [], .nils, .nils] [(0, 1, .lit (.int IntKind.i64 10)), (1, 1, .lit (.str [99, 111, 110, 115])), (3, 1, .tmp 55)])), .mk (some 57) none (.p (.loadn 4 (.tmp 13))), .mk (some 58) none (.call (.lit (.func 16 [])) [.lit (.str [120]), .tmp 56, .tmp 57]), .mk (some 14) none (.a (.newc 28 [.int IntKind.i64 0, .str [], .nils, .nils])), .mk none none (.w (.store 4 (.tmp 14) (.tmp 58)))])
  (.seq (.ops [.mk (some 60) none (.p (.loadn 4 (.tmp 14))), .mk (some 61) none (.call (.lit (.func 14 [])) [.tmp 60, .lit .nils, .lit (.int IntKind.i64 10000)]), .mk (some 59) none (.p (.move (.tmp 61))), .mk (some 62) none (.p (.extract (.tmp 59) 0)), .mk (some 63) none (.p (.extract (.tmp 59) 1)), .mk (some 64) none (.p (.extract (.tmp 59) 2)), .mk (some 15) none (.a (.newc 31 [.int IntKind.i64 0, .str [], .int IntKind.i64 0])), .mk none none (.w (.store 3 (.tmp 15) (.tmp 62))), .mk (some 16) none (.p (.move (.tmp 63))), .mk (some 17) none (.p (.move (.tmp 64)))])
  (.seq (.seq (.ops [.mk (some 65) none (.p (.faddr 0 (.tmp 15))), .mk (some 66) none (.p (.load1 (.tmp 65))), .mk (some 67) none (.p (.bin .neq .none (.tmp 66) (.lit (.int IntKind.i64 7)))), .mk (some 68) none (.p (.move (.tmp 67))), .mk (some 69) (some (68, false)) (.p (.faddr 1 (.tmp 15))), .mk (some 70) (some (68, false)) (.p (.load1 (.tmp 69))), .mk (some 71) (some (68, false)) (.p (.bin .neq .none (.tmp 70) (.lit (.str [])))), .mk (some 72) none (.p (.pick (.tmp 68) (.lit (.bool true)) (.tmp 71)))])
  (.cond (.tmp 72)
  (.seq (.ops [.mk (some 4) none (.p (.move (.lit (.bool false))))])
  .ret)
  .skip))
  (.seq (.seq (.ops [.mk (some 73) none (.p (.move (.tmp 9))), .mk (some 74) none (.p (.bin .gtr .none (.tmp 73) (.lit (.int IntKind.i64 2000))))])
  (.cond (.tmp 74)
  (.seq (.ops [.mk (some 75) none (.p (.faddr 0 (.tmp 10))), .mk (some 76) none (.p (.load1 (.tmp 75))), .mk (some 77) none (.p (.bin .eql .none (.tmp 76) (.lit (.int IntKind.i64 7)))), .mk (some 4) none (.p (.move (.tmp 77)))])
  .ret)
  .skip))
  (.seq (.ops [.mk (some 78) none (.p (.faddr 0 (.tmp 10))), .mk (some 79) none (.p (.load1 (.tmp 78))), .mk (some 80) none (.p (.bin .eql .none (.tmp 79) (.lit (.int IntKind.i64 1)))), .mk (some 81) none (.p (.move (.tmp 80))), .mk (some 82) (some (81, true)) (.p (.faddr 1 (.tmp 10))), .mk (some 83) (some (81, true)) (.p (.load1 (.tmp 82))), .mk (some 84) (some (81, true)) (.p (.lenT (.tmp 83))), .mk (some 85) (some (81, true)) (.p (.move (.tmp 9))), .mk (some 86) (some (81, true)) (.p (.bin .eql .none (.tmp 84) (.tmp 85))), .mk (some 87) none (.p (.pick (.tmp 81) (.tmp 86) (.lit (.bool false)))), .mk (some 4) none (.p (.move (.tmp 87)))])
  .ret)))))))))))))), [.tmp 4]⟩
theorem code6 (own : OwnT) (mode : FuncId → Nat) : (slimPrg Tryd.prog own mode).code 6 = some c6 := by kernel_rfl
end Go.Lite

/-
  The law NaturalPrints.
-/
namespace Go.Lite
open Go Go.Proofs
set_option maxRecDepth 100000
set_option linter.unusedSimpArgs false
set_option linter.unusedVariables false

def PrI (dp : Bool) (N : Nat) (i : Nat) (fr : Fr) (H : Heap) : Prop :=
  fr 1 = .bool dp ∧ fr 5 = .int .i64 (N : Int) ∧ fr 6 = .ptr (.new 0) 0 ∧ fr 7 = .int .i64 (i : Nat) ∧ HLow H ∧ ∃ A, Nest dp H i A H.n ∧ H.t.get 0 = some (.row (headC i A) 0 false (some 28))

set_option maxHeartbeats 4000000 in
theorem prints_body {call : CallF} {dp : Bool} {N i n : Nat} {fr : Fr} {H : Heap} {K : Ex → Fr → Heap → R} {Q : AV → Heap → Prop} (hi : i < N) (hN : N ≤ 1100) (h : PrI dp N i fr H) (hK : ∀ fr' H', PrI dp N (i + 1) fr' H' → Gives (K .normal fr' H') Q) : Gives (c6_l0.run call n fr H K) Q := by
  obtain ⟨h1, h5, h6, h7, low, A, nest, g⟩ := h
  have n0 := low.lt g
  have z0 : ¬ 0 = H.n := by omega
  have hlt : (i : Int) < (N : Int) := by omega
  have hw := wrap_succ (i := i) (n := N) hi (by omega)
  have low1 : ∀ ob ob2 ob3 ob4, HLow ((((H.push ob).put H.n ob2).push ob3).put 0 ob4) := fun ob ob2 ob3 ob4 => by
    have a1 : HLow ((H.push ob).put H.n ob2) := low.push.put (by rw [h_n]; omega)
    exact a1.push.put (by simp only [h_n, h_nput]; omega)
  have keep1 : ∀ ob ob2 ob3 ob4, ∀ j, 1 ≤ j → j < H.n → ((((H.push ob).put H.n ob2).push ob3).put 0 ob4).t.get j = H.t.get j := fun ob ob2 ob3 ob4 j j1 j2 => by
    simp only [h_gput, h_get, h_n, h_nput]
    rw [if_neg (by omega), if_neg (by omega), if_neg (by omega), if_neg (by omega)]
  have top : ∀ (ob ob2 ob3 ob4 : Obj), ((((H.push ob).put H.n ob2).push ob3).put 0 ob4).t.get 0 = some ob4 := fun ob ob2 ob3 ob4 => by rw [h_gput, if_pos rfl]
  have mid : ∀ (ob ob2 ob3 ob4 : Obj), ((((H.push ob).put H.n ob2).push ob3).put 0 ob4).t.get (H.n + 1) = some ob3 := fun ob ob2 ob3 ob4 => by
    rw [h_gput, if_neg (by omega), h_get, if_pos]
    simp only [h_nput, h_n]
  have num : ∀ (ob ob2 ob3 ob4 : Obj), ((((H.push ob).put H.n ob2).push ob3).put 0 ob4).n = H.n + 2 := fun ob ob2 ob3 ob4 => by simp only [h_nput, h_n]
  cases nest with
  | zero hb =>
    cases dp
    all_goals
      simp only [headC] at g
      simp -implicitDefEqProofs only [c6_l0, ↓v_lenS, ZZ, Nat.reduceBEq, reduceIte, Nat.reduceAdd, Nat.reduceLeDiff, Nat.reduceEqDiff, Nat.reduceBneDiff, h1, h5, h6, h7, g, hlt, hw, z0]
      refine hK _ _ ⟨?_, ?_, ?_, ?_, low1 _ _ _ _, _, .one (by rw [num]; omega), top _ _ _ _⟩
      all_goals simp -implicitDefEqProofs only [↓v_lenS, ZZ, Nat.reduceBEq, reduceIte, Nat.reduceAdd, Nat.reduceLeDiff, Nat.reduceEqDiff, Nat.reduceBneDiff, h1, h5, h6, h7]
      all_goals rfl
  | one hb =>
    cases dp
    all_goals
      simp only [headC] at g
      simp -implicitDefEqProofs only [c6_l0, ↓v_lenS, ZZ, Nat.reduceBEq, reduceIte, Nat.reduceAdd, Nat.reduceLeDiff, Nat.reduceEqDiff, Nat.reduceBneDiff, h1, h5, h6, h7, g, hlt, hw, z0]
      refine hK _ _ ⟨?_, ?_, ?_, ?_, low1 _ _ _ _, _, .more ((Nest.one hb).keep (keep1 _ _ _ _)) (Nat.le_succ _) (by rw [num]; omega) (mid _ _ _ _), top _ _ _ _⟩
      all_goals simp -implicitDefEqProofs only [↓v_lenS, ZZ, Nat.reduceBEq, reduceIte, Nat.reduceAdd, Nat.reduceLeDiff, Nat.reduceEqDiff, Nat.reduceBneDiff, h1, h5, h6, h7]
      all_goals rfl
  | more nn hr hc gr =>
    cases dp
    all_goals
      simp only [headC] at g
      simp -implicitDefEqProofs only [c6_l0, ↓v_lenS, ZZ, Nat.reduceBEq, reduceIte, Nat.reduceAdd, Nat.reduceLeDiff, Nat.reduceEqDiff, Nat.reduceBneDiff, h1, h5, h6, h7, g, hlt, hw, z0]
      refine hK _ _ ⟨?_, ?_, ?_, ?_, low1 _ _ _ _, _, .more ((Nest.more nn hr hc gr).keep (keep1 _ _ _ _)) (Nat.le_succ _) (by rw [num]; omega) (mid _ _ _ _), top _ _ _ _⟩
      all_goals simp -implicitDefEqProofs only [↓v_lenS, ZZ, Nat.reduceBEq, reduceIte, Nat.reduceAdd, Nat.reduceLeDiff, Nat.reduceEqDiff, Nat.reduceBneDiff, h1, h5, h6, h7]
      all_goals rfl

theorem Nest.shut1 {dp : Bool} {i : Nat} {H : Heap} {A : AV} {b d : Nat} (h : Nest dp H (i + 1) A b) (hd : i + 1 ≤ d) (low : HLow H) :
    ∃ H', shutC d A H = some (vXs (if dp then [chainX dp i, nilK] else [oneK, chainX dp i]), H') ∧ H'.n = H.n ∧ HLow H' := by
  obtain ⟨H', m1, _, m3, m4⟩ := h.shut d hd low
  refine ⟨H', ?_, m3, m4⟩
  simp only [headC, chainX, X.cells_mk, mapHM_cons, mapHM_nil, shutC_int, shutC_str, shutC_nils, Option.bind_some, Option.map_some] at m1
  cases hs : shutC d A H with
  | none => rw [hs] at m1; simp at m1
  | some q =>
    rw [hs] at m1
    obtain ⟨y, H2⟩ := q
    simp only [Option.bind_some, Option.map_some, Option.some.injEq, Prod.mk.injEq, List.cons.injEq] at m1
    obtain ⟨⟨_, _, _, h1, _⟩, h2⟩ := m1
    rw [h1, h2]

def ringP : X := .mk 10 [99, 111, 110, 115] [] [.mk 1 [49] [] [], .mk 5 [120] [] []]
theorem bind_cons : bindX [120] ringP (varX [120]) = ringX := rfl

set_option maxHeartbeats 16000000 in
theorem law6 (k : Int) (dp : Bool) : Ret P6 6 [.int .i64 k, .bool dp] (.bool true) := by
  obtain ⟨w0, w1⟩ := within_range k (b := 200) (by decide) (by decide)
  obtain ⟨w, hw⟩ : ∃ w : Nat, within k 200 = (w : Int) := ⟨(within k 200).toNat, by omega⟩
  obtain ⟨M, hM⟩ : ∃ M, M = 899 + w := ⟨_, rfl⟩
  obtain ⟨o, ho, k7, k1⟩ := chain_told dp (M + 1) (by omega) (by omega)
  have eC := eval_told (chain_tame dp (M + 1)) 10000 10000 rfl (by omega) ho
  have hv : (chainX dp (M + 1)).v = .agg [.int .i64 10, .str [99, 111, 110, 115], .lst 0 0 true [], vXs (if dp then [chainX dp M, nilK] else [oneK, chainX dp M])] := by rw [chainX, X.v_mk]; rfl
  rw [hv] at eC
  obtain ⟨sR, hR⟩ := ring_out 2000 (by omega)
  have eR := eval_told ring_tame 10000 10000 rfl (by omega) hR
  simp only [O.kind, O.txt, O.st] at eR
  have v17 := (var25 [120]).up
  have b16 := (bind27 [120] ringP (varX [120])).up
  rw [bind_cons] at b16
  have hc0 : ((0 : Nat) : Int) = 0 := rfl
  have hc2 : ((2 : Nat) : Int) = 2 := rfl
  simp only [ringX, oneK, consP, ringP, varX, X.v_mk, vXs, vList_cons, vList_nil, List.flatMap_cons, List.flatMap_nil, List.length_cons, List.length_nil, X.cells_mk, List.cons_append, List.nil_append, List.append_nil, vStrs, vStrs_nil, str1, Nat.reduceAdd] at eR b16 v17
  have e15 := run15 k 200 (by decide)
  rw [hw] at e15
  have hw9 : IntKind.i64.wrap (900 + (w : Int)) = ((M + 1 : Nat) : Int) := by rw [wrap64 (by omega) (by omega)]; omega
  have hw2 : IntKind.i64.wrap (2 * ((M + 1 : Nat) : Int)) = ((2 * (M + 1) : Nat) : Int) := by rw [wrap64 (by omega) (by omega)]; omega
  have hwa : IntKind.i64.wrap (((2 * (M + 1) : Nat) : Int) + 1) = ((2 * (M + 1) + 1 : Nat) : Int) := by rw [wrap64 (by omega) (by omega)]; omega
  have hwb : IntKind.i64.wrap (((2 * (M + 1) : Nat) : Int) + 2) = ((2 * (M + 1) + 2 : Nat) : Int) := by rw [wrap64 (by omega) (by omega)]; omega
  refine Ret.of rfl (code6 _ _) rfl rfl (fun H => by simp -implicitDefEqProofs only [↓v_lenS, ZZ, Nat.reduceBEq, reduceIte, Nat.reduceAdd, Nat.reduceLeDiff, Nat.reduceEqDiff, Nat.reduceBneDiff]) (known11.and (e15.and (v17.and (b16.and (Ev.ge 2000)))) |>.mono fun n hn H => ?_)
  obtain ⟨e11, e15, v17, b16, hn⟩ := hn
  obtain ⟨n, rfl⟩ : ∃ k, n = k + 1 := ⟨n - 1, by omega⟩
  simp -implicitDefEqProofs only [c6, ↓v_lenS, ZZ, Nat.reduceBEq, reduceIte, Nat.reduceAdd, Nat.reduceLeDiff, Nat.reduceEqDiff, Nat.reduceBneDiff, CM, XS, e11, e15, hw9]
  refine loop_rounds (M + 1) (PrI dp (M + 1)) ?_ ?_ _ 0 _ _ (by omega) (by omega) ?_
  · rintro i fr H K' hi h hKe hKr hK
    exact prints_body hi (by omega) h hK
  · rintro fr H K' ⟨h1, h5, h6, h7, low, A, nest, g⟩ hKe hKr
    obtain ⟨H', m1, m3, m4⟩ := nest.shut1 (d := 2048) (by omega) low
    simp only [headC] at g
    have fA := nest.flat
    have hlt : ¬ ((M + 1 : Nat) : Int) < ((M + 1 : Nat) : Int) := by omega
    generalize hP : vXs (if dp then [chainX dp M, nilK] else [oneK, chainX dp M]) = P at *
    cases dp with
    | true =>
      simp only [Bool.false_eq_true, if_true, if_false] at k7 k1
      by_cases hs : 2000 < 2 * (M + 1) + 2
      · have hgt : (2000 : Int) < ((2 * (M + 1) + 2 : Nat) : Int) := by omega
        rw [k7 hs] at eC
        simp -implicitDefEqProofs only [c6_l0, ↓v_lenS, ZZ, Nat.reduceBEq, reduceIte, Nat.reduceAdd, Nat.reduceLeDiff, Nat.reduceEqDiff, Nat.reduceBneDiff, CM, XS, h1, h5, h6, h7, g, hlt, hKe, k_blockE, hw2, hwa, hwb, hgt, call14s, m1, eC, v17, b16, eR, shutC_sl, shutRow_row, mapHM_cons, mapHM_nil, Cap.es, Cap.full, Int.reduceBEq, Int.reduceBNe, bne_self_eq_false, beq_self_eq_true, gives_ret]
        exact ⟨_, rfl⟩
      · have hgt : ¬ (2000 : Int) < ((2 * (M + 1) + 2 : Nat) : Int) := by omega
        obtain ⟨q1, q2⟩ := k1 (by omega)
        have hleq : ((o.txt.length : Int) == ((2 * (M + 1) + 2 : Nat) : Int)) = true := by rw [q2]; simp
        rw [q1] at eC
        simp -implicitDefEqProofs only [c6_l0, ↓v_lenS, ZZ, Nat.reduceBEq, reduceIte, Nat.reduceAdd, Nat.reduceLeDiff, Nat.reduceEqDiff, Nat.reduceBneDiff, CM, XS, h1, h5, h6, h7, g, hlt, hKe, k_blockE, hw2, hwa, hwb, hgt, hleq, call14s, m1, eC, v17, b16, eR, shutC_sl, shutRow_row, mapHM_cons, mapHM_nil, Cap.es, Cap.full, Int.reduceBEq, Int.reduceBNe, bne_self_eq_false, beq_self_eq_true, gives_ret]
        exact ⟨_, rfl⟩
    | false =>
      simp only [Bool.false_eq_true, if_true, if_false] at k7 k1
      by_cases hs : 2000 < 2 * (M + 1) + 1
      · have hgt : (2000 : Int) < ((2 * (M + 1) + 1 : Nat) : Int) := by omega
        rw [k7 hs] at eC
        simp -implicitDefEqProofs only [c6_l0, ↓v_lenS, ZZ, Nat.reduceBEq, reduceIte, Nat.reduceAdd, Nat.reduceLeDiff, Nat.reduceEqDiff, Nat.reduceBneDiff, CM, XS, h1, h5, h6, h7, g, hlt, hKe, k_blockE, hw2, hwa, hwb, hgt, call14s, m1, eC, v17, b16, eR, shutC_sl, shutRow_row, mapHM_cons, mapHM_nil, Cap.es, Cap.full, Int.reduceBEq, Int.reduceBNe, bne_self_eq_false, beq_self_eq_true, gives_ret]
        exact ⟨_, rfl⟩
      · have hgt : ¬ (2000 : Int) < ((2 * (M + 1) + 1 : Nat) : Int) := by omega
        obtain ⟨q1, q2⟩ := k1 (by omega)
        have hleq : ((o.txt.length : Int) == ((2 * (M + 1) + 1 : Nat) : Int)) = true := by rw [q2]; simp
        rw [q1] at eC
        simp -implicitDefEqProofs only [c6_l0, ↓v_lenS, ZZ, Nat.reduceBEq, reduceIte, Nat.reduceAdd, Nat.reduceLeDiff, Nat.reduceEqDiff, Nat.reduceBneDiff, CM, XS, h1, h5, h6, h7, g, hlt, hKe, k_blockE, hw2, hwa, hwb, hgt, hleq, call14s, m1, eC, v17, b16, eR, shutC_sl, shutRow_row, mapHM_cons, mapHM_nil, Cap.es, Cap.full, Int.reduceBEq, Int.reduceBNe, bne_self_eq_false, beq_self_eq_true, gives_ret]
        exact ⟨_, rfl⟩
  · refine ⟨?_, ?_, ?_, ?_, ?_, .nils, .zero ?_, ?_⟩
    · rfl
    · rfl
    · rfl
    · rfl
    · exact HLow.bare.push.put (by rw [h_n]; omega)
    · simp only [h_nput, h_n]; omega
    · rw [h_gput, if_pos rfl]; rfl

end Go.Lite

/- The row of the law NaturalPrints, and its card: what its call does, from the interpreter's run; what it lists, tied to the program's text. -/
namespace Go.Proofs.YtmfdlglhngmacaaDoor.naturalPrints
open Go.ChangeShapes Go.WideShapes Go.ChangeAt Go.RowKit Go.Lite
open Go.ChangeMaps (open_string shut_string)
set_option linter.unusedVariables false
set_option maxRecDepth 100000
theorem own : ownKnob Tryd.prog.godebug = none := by kernel_rfl
theorem laid_met (os : Os) : laidMet Tryd.prog Rows.naturalPrintsRow.laid ((laidWorld Tryd.prog os [(2, Rows.laid_math_bits_deBruijn32tab), (3, Rows.laid_math_bits_deBruijn64tab), (0, Rows.laid_internal_strconv_uint64pow10)]).forCall (fun _ _ => 0) ⟨#[], #[.int .i64 0, .bool false], []⟩).memory :=
  laidMet_of_run' 8 (by kernel_rfl) (by kernel_rfl)
theorem lifted (os : Os) (started : os.Started) (H : Type) (enc : TypeId × Value → H) :
    ReturnsInHanded {} Tryd.checked os 6 .any (fun w args => (Rows.naturalPrintsSpec.pre enc Tryd.prog Tryd.f6 Rows.naturalPrintsRow.domain false w args ∧ laidMet Tryd.prog Rows.naturalPrintsRow.laid w) ∧ sizedMet enc Tryd.prog Tryd.f6 (OpenSpec.ofChange Rows.naturalPrintsSpec) false w args) (Rows.naturalPrintsSpec.post enc Tryd.prog Tryd.f6 false true false false) := by
  refine returns_laid (C := Tryd.checked) (X := fun w _ => laidMet Tryd.prog Rows.naturalPrintsRow.laid w) own started (by kernel_rfl) Tryd.func6
    (ChangeSpec.witness_at (enc := enc) (C := Tryd.checked) (os := os) (X := fun w _ => laidMet Tryd.prog Rows.naturalPrintsRow.laid w) false (laidWorld Tryd.prog os [(2, Rows.laid_math_bits_deBruijn32tab), (3, Rows.laid_math_bits_deBruijn64tab), (0, Rows.laid_internal_strconv_uint64pow10)]) #[.int .i64 0, .bool false] 8 rfl (by kernel_rfl) (by kernel_rfl) (by kernel_rfl) (by kernel_rfl) (by kernel_rfl) (laid_met os)) ?_
  intro W base args ds gs before hval0 hW hcnd hsz0 hsh hlx _
  have hsz : (DataW.weightsEach Tryd.prog (Tryd.f6.params.toList ++ Rows.naturalPrintsSpec.plain.varTypes Tryd.prog) (ds ++ gs)).all (· ≤ reachBytes) = true := hsz0
  have hval : ∀ (j : Nat) t v, Tryd.f6.params[j]? = some t → args[j]? = some v → Value.okWide Tryd.prog W .any base t v := hval0
  have hW' := hW
  obtain ⟨p, q, hA0, hV, rfl, hfz, hnd⟩ := hW
  have hA : DataW.TrodAll enc Tryd.prog W 0 (fun _ => true) true Tryd.f6.params.toList args.toList ds p := hA0
  rw [Tryd.params6] at hA hval hsz
  obtain ⟨v0, vs0, d0, ds0, p0, q0, hargs, rfl, rfl, h0, r0⟩ := trodAll_cons hA
  obtain ⟨v1, vs1, d1, ds1, p1, q1, rfl, rfl, rfl, h1, r1⟩ := trodAll_cons r0
  obtain ⟨rfl, rfl, rfl⟩ := trodAll_nil r1
  obtain rfl : args = #[v0, v1] := by cases args; simp_all
  obtain ⟨rfl, rfl⟩ := trodVars_none hV
  obtain ⟨a0, rfl, rfl, rfl, w0⟩ := open_int Tryd.underlying3 (hval 0 3 v0 rfl rfl) h0
  obtain ⟨a1, rfl, rfl, rfl⟩ := open_bool Tryd.underlying4 (hval 1 4 v1 rfl rfl) h1
  refine (calls_of_ret hsh (tab_of_laid hlx) (law6 a0 a1) (by simp only [VRels]; exact ⟨_, _, rfl, rfl, _, _, rfl, rfl, rfl⟩)).mono fun e W' ⟨he, bel⟩ => ?_
  subst he
  exact ⟨_, rfl, _, _, _, [], _, [], hW', trodAll_mk1 (shut_bool Tryd.underlying4 _), (trodAll_cons_mk (shut_int Tryd.underlying3 w0) (trodAll_cons_mk (shut_bool Tryd.underlying4 _) trodAll_mk0)), rfl, bel.frame _, fun h => by cases h⟩
theorem over : Rows.naturalPrintsRow.holds Tryd.pinned (OpenSpec.ofChange Rows.naturalPrintsSpec) :=
  OpenClaim.holds_of_wide 6 Tryd.f6 rfl rfl rfl rfl rfl rfl rfl ⟨rfl, rfl, rfl, rfl, rfl⟩ rfl rfl rfl rfl rfl (by kernel_rfl) Tryd.func6 (by kernel_rfl)
    (of_decide_eq_true (by kernel_rfl)) (by unfold Func.isWrapper; first | (rw [if_pos (by decide +kernel)]; kernel_rfl) | (rw [if_neg (by decide +kernel)]; exact ⟨rfl, rfl⟩))
    (fun os started H enc _ => lifted os started H enc)
theorem card : Rows.NaturalPrintsCardSaid :=
  Claim7.holds_tied_plain_at .later [] [.data, .data, .data] true (true, "06472ccc2e734025fb51c4dbe6afee2256fcaf741367e7b75c75ff11b22c96a1") true over (fun _ h => by cases h) (by kernel_rfl) (fun _ h => by cases h) naturalPrints_row_tie rfl ⟨rfl, rfl⟩ (by kernel_rfl) (by first | rfl | decide)
    (fun f fn h1 h2 => by
      obtain rfl : f = 6 := Option.some.inj (h1.symm.trans (by kernel_rfl))
      obtain rfl : fn = Tryd.f6 := Option.some.inj (h2.symm.trans Tryd.func6)
      refine ⟨by kernel_rfl, fun j t hj => ?_⟩
      rw [Tryd.params6] at hj
      match j, hj with
      | 0, hj =>
        obtain rfl : t = 3 := by simpa using hj.symm
        exact (by kernel_rfl : Tryd.pinned.checked.prog.wantsStandIn 3 = false)
      | 1, hj =>
        obtain rfl : t = 4 := by simpa using hj.symm
        exact (by kernel_rfl : Tryd.pinned.checked.prog.wantsStandIn 4 = false)
      | j + 2, hj => simp at hj)
    (by kernel_rfl)
#print axioms card
end Go.Proofs.YtmfdlglhngmacaaDoor.naturalPrints
namespace Go.Proofs.YtmfdlglhngmacaaDoor
/-- The card, under a short name, for the claim. -/
theorem naturalPrints_holds : Rows.NaturalPrintsCardSaid := naturalPrints.card
end Go.Proofs.YtmfdlglhngmacaaDoor
