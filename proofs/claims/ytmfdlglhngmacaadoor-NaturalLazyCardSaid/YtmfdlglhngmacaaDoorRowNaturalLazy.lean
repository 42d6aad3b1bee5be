/- The row of the law NaturalLazy, and its card: what its call does, from the interpreter's run; what it lists, tied to the program's text. -/
import Derived.Test.YtmfdlglhngmacaaDoorSN
import Derived.Test.YtmfdlglhngmacaaDoorSO
import Derived.Test.YtmfdlglhngmacaaDoorSI
import Derived.Test.YtmfdlglhngmacaaDoorSC
import Derived.Test.YtmfdlglhngmacaaDoorProg
import Derived.Test.YtmfdlglhngmacaaDoorSD
import Derived.Test.YtmfdlglhngmacaaDoorTie
import Derived.Test.YtmfdlglhngmacaaDoorCards
import Derived.WalkKit
import Derived.ProofKit
import Derived.OpenShut
import Derived.ShutString
import Derived.ChangeOld
import Derived.Below
import Derived.SizedLaws
import Derived.HandedShaped
import Derived.Carry
import Derived.SevenTiedAt

/-
  A run among other cells, with steps ahead, is the same; a name that no term uses does not count.
-/
namespace Go.Lite
set_option maxRecDepth 100000
set_option linter.unusedVariables false
set_option linter.unusedSimpArgs false

section
variable (w : Str)

/-- what names stand for, there and here -/
def EnvQ (r : List Nat) (env env' : Env) : Prop := ∀ t, t ≠ w → (∀ p, env.find? (fun p => p.1 == t) = some p → ∃ p', env'.find? (fun p => p.1 == t) = some p' ∧ r[p.2]? = some p'.2) ∧ (env.find? (fun p => p.1 == t) = none → env'.find? (fun p => p.1 == t) = none)
def LisQ (r : List Nat) : List Nat → List Nat → Prop
  | [], [] => True
  | i :: l, j :: m => r[i]? = some j ∧ LisQ r l m
  | _, _ => False
def ValQ (r : List Nat) : V → V → Prop
  | .atom k t, v => v = .atom k t
  | .pair a b, v => ∃ a' b', v = .pair a' b' ∧ r[a]? = some a' ∧ r[b]? = some b'
  | .fn (.mk k t ns a) env g, v => ∃ env' g', v = .fn (.mk k t ns a) env' g' ∧ X.nos w a ∧ EnvQ w r env env' ∧ LisQ r g g'
def CellQ (r : List Nat) : C → C → Prop
  | .wait e env, c => ∃ env', c = .wait e env' ∧ e.no w ∧ EnvQ w r env env'
  | .busy e env, c => ∃ env', c = .busy e env' ∧ e.no w ∧ EnvQ w r env env'
  | .done v, c => ∃ v', c = .done v' ∧ ValQ w r v v'
structure StQ (r : List Nat) (d u : Nat) (s s' : S) : Prop where
  len : r.length = s.cells.length
  nodup : r.Nodup
  low : ∀ j ∈ r, j < s'.cells.length
  cells : ∀ (i j : Nat) (c : C), r[i]? = some j → s.cells[i]? = some c → ∃ c', s'.cells[j]? = some c' ∧ CellQ w r c c'
  steps : s'.steps = s.steps + d
  uses : s'.uses = s.uses + u
/-- what comes of both -/
def OutQ (M : Nat) (r : List Nat) (d u : Nat) {α : Type} (A : List Nat → α → α → Prop) : O α → O α → Prop
  | .val v s, o => ∃ x v' s', o = .val v' s' ∧ (∀ j ∈ x, M ≤ j) ∧ A (r ++ x) v v' ∧ StQ w (r ++ x) d u s s' ∧ M ≤ s'.cells.length
  | .stop k t s, o => ∃ s', o = .stop k t s' ∧ s'.steps = s.steps + d ∧ s'.uses = s.uses + u
end

variable {w : Str}

theorem get_more {r x : List Nat} {i j : Nat} (h : r[i]? = some j) : (r ++ x)[i]? = some j := by
  rw [List.getElem?_append_left (List.getElem?_eq_some_iff.1 h).1]; exact h
theorem EnvQ.more {r x : List Nat} {env env' : Env} (h : EnvQ w r env env') : EnvQ w (r ++ x) env env' := fun t ht => ⟨fun p hp => by
  obtain ⟨p', h1, h2⟩ := (h t ht).1 p hp
  exact ⟨p', h1, get_more h2⟩, (h t ht).2⟩
theorem LisQ.more {r x : List Nat} : ∀ {l m : List Nat}, LisQ r l m → LisQ (r ++ x) l m
  | [], [], _ => trivial
  | i :: l, j :: m, h => ⟨get_more h.1, LisQ.more h.2⟩
  | [], _ :: _, h => h.elim
  | _ :: _, [], h => h.elim
theorem LisQ.len {r : List Nat} : ∀ {l m : List Nat}, LisQ r l m → m.length = l.length
  | [], [], _ => rfl
  | i :: l, j :: m, h => by simp [LisQ.len h.2]
  | [], _ :: _, h => h.elim
  | _ :: _, [], h => h.elim
theorem LisQ.append {r : List Nat} : ∀ {l m l' m' : List Nat}, LisQ r l m → LisQ r l' m' → LisQ r (l ++ l') (m ++ m')
  | [], [], _, _, _, h => h
  | i :: l, j :: m, _, _, h, h' => ⟨h.1, LisQ.append h.2 h'⟩
  | [], _ :: _, _, _, h, _ => h.elim
  | _ :: _, [], _, _, h, _ => h.elim
theorem LisQ.take {r : List Nat} : ∀ {l m : List Nat} (n : Nat), LisQ r l m → LisQ r (l.take n) (m.take n)
  | _, _, 0, _ => by simp [LisQ]
  | [], [], n + 1, _ => by simp [LisQ]
  | i :: l, j :: m, n + 1, h => ⟨h.1, LisQ.take n h.2⟩
  | [], _ :: _, _ + 1, h => h.elim
  | _ :: _, [], _ + 1, h => h.elim
theorem LisQ.drop {r : List Nat} : ∀ {l m : List Nat} (n : Nat), LisQ r l m → LisQ r (l.drop n) (m.drop n)
  | _, _, 0, h => by simpa using h
  | [], [], n + 1, _ => by simp [LisQ]
  | i :: l, j :: m, n + 1, h => by simpa using LisQ.drop n h.2
  | [], _ :: _, _ + 1, h => h.elim
  | _ :: _, [], _ + 1, h => h.elim
theorem ValQ.more {r x : List Nat} {v v' : V} (h : ValQ w r v v') : ValQ w (r ++ x) v v' := by
  cases v with
  | atom k t => exact h
  | pair a b => obtain ⟨a', b', rfl, h1, h2⟩ := h; exact ⟨a', b', rfl, get_more h1, get_more h2⟩
  | fn e env g =>
    obtain ⟨k, t, ns, a⟩ := e
    obtain ⟨env', g', rfl, h1, h2, h3⟩ := h
    exact ⟨env', g', rfl, h1, h2.more, h3.more⟩
theorem CellQ.more {r x : List Nat} {c c' : C} (h : CellQ w r c c') : CellQ w (r ++ x) c c' := by
  cases c with
  | wait e env => obtain ⟨env', rfl, h1, h2⟩ := h; exact ⟨env', rfl, h1, h2.more⟩
  | busy e env => obtain ⟨env', rfl, h1, h2⟩ := h; exact ⟨env', rfl, h1, h2.more⟩
  | done v => obtain ⟨v', rfl, h1⟩ := h; exact ⟨v', rfl, h1.more⟩
theorem ValQ.kind {r : List Nat} {v v' : V} (h : ValQ w r v v') : v'.kind = v.kind ∧ v'.text = v.text := by
  cases v with
  | atom k t => rw [h]; exact ⟨rfl, rfl⟩
  | pair a b => obtain ⟨a', b', rfl, _⟩ := h; exact ⟨rfl, rfl⟩
  | fn e env g => obtain ⟨k, t, ns, a⟩ := e; obtain ⟨env', g', rfl, _⟩ := h; exact ⟨rfl, rfl⟩

/-- a new cell, there and here -/
theorem StQ.new {r : List Nat} {d u : Nat} {s s' : S} {c c' : C} (h : StQ w r d u s s') (hc : CellQ w (r ++ [s'.cells.length]) c c') : StQ w (r ++ [s'.cells.length]) d u (s.new c).2 (s'.new c').2 where
  len := by simp [S.new, h.len]
  nodup := by
    rw [List.nodup_append]
    refine ⟨h.nodup, by simp, ?_⟩
    intro a ha b hb e
    simp only [List.mem_singleton] at hb
    have := h.low a ha
    omega
  low := by
    intro j hj
    simp only [S.new, List.length_append, List.length_singleton]
    rcases List.mem_append.1 hj with hj | hj
    · have := h.low j hj; omega
    · simp only [List.mem_singleton] at hj; omega
  cells := by
    intro i j c0 hj hi
    simp only [S.new] at hi ⊢
    by_cases hl : i < s.cells.length
    · rw [List.getElem?_append_left (by rw [h.len]; exact hl)] at hj
      rw [List.getElem?_append_left hl] at hi
      obtain ⟨c1, h1, h2⟩ := h.cells i j c0 hj hi
      exact ⟨c1, by rw [List.getElem?_append_left (List.getElem?_eq_some_iff.1 h1).1]; exact h1, h2.more⟩
    · have hi' : i = s.cells.length := by
        have := (List.getElem?_eq_some_iff.1 hi).1
        simp at this; omega
      subst hi'
      rw [← h.len] at hj
      simp at hj hi
      subst hj hi
      exact ⟨c', by simp, hc⟩
  steps := h.steps
  uses := h.uses

theorem StQ.set {r : List Nat} {d u i j : Nat} {s s' : S} {c c' : C} (h : StQ w r d u s s') (hj : r[i]? = some j) (hc : CellQ w r c c') : StQ w r d u (s.set i c) (s'.set j c') where
  len := by simp [S.set, h.len]
  nodup := h.nodup
  low := by simpa [S.set] using h.low
  cells := by
    intro a b c0 hb ha
    simp only [S.set] at ha ⊢
    rw [List.getElem?_set] at ha
    by_cases hai : i = a
    · subst hai
      rw [hj] at hb
      simp only [Option.some.injEq] at hb
      subst hb
      have hjl : j < s'.cells.length := h.low j (List.mem_of_getElem? hj)
      rw [if_pos rfl] at ha
      split at ha
      · simp only [Option.some.injEq] at ha
        subst ha
        exact ⟨c', by simp [hjl], hc⟩
      · cases ha
    · rw [if_neg hai] at ha
      obtain ⟨c1, h1, h2⟩ := h.cells a b c0 hb ha
      have hne : j ≠ b := by
        rintro rfl
        exact hai ((List.getElem?_inj (List.getElem?_eq_some_iff.1 hj).1 h.nodup).1 (hj.trans hb.symm))
      exact ⟨c1, by rw [List.getElem?_set_ne hne]; exact h1, h2⟩
  steps := h.steps
  uses := h.uses
theorem StQ.tick {r : List Nat} {d u : Nat} {s s' : S} (h : StQ w r d u s s') : StQ w r d u s.tick s'.tick := ⟨h.len, h.nodup, h.low, h.cells, by have := h.steps; simp only [S.tick]; omega, h.uses⟩
theorem StQ.used {r : List Nat} {d u : Nat} {s s' : S} (h : StQ w r d u s s') : StQ w r d u s.used s'.used := ⟨h.len, h.nodup, h.low, h.cells, h.steps, by have := h.uses; simp only [S.used]; omega⟩

/-- cells that are found or made, there and here -/
def NewQ (w : Str) (M : Nat) (r : List Nat) (d u : Nat) (q q' : Nat × S) : Prop := ∃ x, (∀ j ∈ x, M ≤ j) ∧ (r ++ x)[q.1]? = some q'.1 ∧ StQ w (r ++ x) d u q.2 q'.2 ∧ M ≤ q'.2.cells.length

theorem new_q {M : Nat} {r : List Nat} {d u : Nat} {s s' : S} {c c' : C} (h : StQ w r d u s s') (hM : M ≤ s'.cells.length) (hc : CellQ w r c c') : NewQ w M r d u (s.new c) (s'.new c') := by
  refine ⟨[s'.cells.length], by simpa using hM, ?_, h.new hc.more, by simp [S.new]; omega⟩
  show (r ++ [s'.cells.length])[s.cells.length]? = some s'.cells.length
  rw [← h.len]; simp

theorem look_q {M : Nat} {r : List Nat} {d u : Nat} {s s' : S} {env env' : Env} {t : Str} (h : StQ w r d u s s') (hM : M ≤ s'.cells.length) (he : EnvQ w r env env') (ht : t ≠ w) : NewQ w M r d u (lookA env t s) (lookA env' t s') := by
  obtain ⟨h1, h2⟩ := he t ht
  unfold lookA
  cases hf : env.find? (fun p => p.1 == t) with
  | some p =>
    obtain ⟨p', e1, e2⟩ := h1 p hf
    rw [e1]
    exact ⟨[], by simp, by simpa using e2, by simpa using h, hM⟩
  | none =>
    rw [h2 hf]
    exact new_q h hM ⟨_, rfl, rfl⟩

theorem arg_q {M : Nat} {r : List Nat} {d u : Nat} {s s' : S} {env env' : Env} {e : X} (h : StQ w r d u s s') (hM : M ≤ s'.cells.length) (he : EnvQ w r env env') (hn : e.no w) : NewQ w M r d u (argA e env s) (argA e env' s') := by
  obtain ⟨k, t, ns, l⟩ := e
  unfold argA
  simp only []
  by_cases h5 : k = 5
  · rw [if_pos h5, if_pos h5]; exact look_q h hM he (hn.1 h5)
  rw [if_neg h5, if_neg h5]
  by_cases h14 : 1 ≤ k ∧ k ≤ 4
  · rw [if_pos h14, if_pos h14]
    refine new_q h hM ⟨_, rfl, ?_⟩
    unfold constV
    repeat' split
    all_goals rfl
  · rw [if_neg h14, if_neg h14]
    exact new_q h hM ⟨_, rfl, hn, he⟩

theorem args_q {M : Nat} {d u : Nat} {env env' : Env} : ∀ {l : List X} {r : List Nat} {s s' : S}, StQ w r d u s s' → M ≤ s'.cells.length → EnvQ w r env env' → X.nos w l →
    ∃ x, (∀ j ∈ x, M ≤ j) ∧ LisQ (r ++ x) (argsA env l s).1 (argsA env' l s').1 ∧ StQ w (r ++ x) d u (argsA env l s).2 (argsA env' l s').2 ∧ M ≤ (argsA env' l s').2.cells.length
  | [], r, s, s', h, hM, _, _ => ⟨[], by simp, trivial, by simpa [argsA] using h, hM⟩
  | e :: l, r, s, s', h, hM, he, hn => by
    obtain ⟨x, x1, x2, x3, x4⟩ := arg_q h hM he hn.1
    obtain ⟨y, y1, y2, y3, y4⟩ := args_q (l := l) x3 x4 he.more hn.2
    refine ⟨x ++ y, fun j hj => (List.mem_append.1 hj).elim (x1 j) (y1 j), ?_, ?_, y4⟩
    · rw [argsA, argsA, ← List.append_assoc]
      exact ⟨get_more x2, y2⟩
    · rw [argsA, argsA, ← List.append_assoc]; exact y3

/-- a name more, there and here -/
theorem EnvQ.cons {r : List Nat} {env env' : Env} {n : Str} {i j : Nat} (h : EnvQ w r env env') (hj : r[i]? = some j) : EnvQ w r ((n, i) :: env) ((n, j) :: env') := by
  intro t ht
  by_cases hn : (n == t) = true
  · refine ⟨fun p hp => ?_, fun hp => ?_⟩
    · rw [List.find?_cons, hn] at hp
      simp only [Option.some.injEq] at hp
      subst hp
      exact ⟨(n, j), by rw [List.find?_cons, hn], hj⟩
    · rw [List.find?_cons, hn] at hp; cases hp
  · have hn : (n == t) = false := by simpa using hn
    have e1 : ((n, i) :: env).find? (fun p => p.1 == t) = env.find? (fun p => p.1 == t) := by rw [List.find?_cons, hn]
    have e2 : ((n, j) :: env').find? (fun p => p.1 == t) = env'.find? (fun p => p.1 == t) := by rw [List.find?_cons, hn]
    rw [e1, e2]; exact h t ht
theorem EnvQ.zip {r : List Nat} : ∀ {ns : List Str} {g g' : List Nat} {env env' : Env}, EnvQ w r env env' → LisQ r g g' → EnvQ w r ((ns.zip g).reverse ++ env) ((ns.zip g').reverse ++ env')
  | [], g, g', env, env', h, _ => by simpa using h
  | n :: ns, [], [], env, env', h, _ => by simpa using h
  | n :: ns, i :: g, j :: g', env, env', h, hl => by
    simp only [List.zip_cons_cons, List.reverse_cons, List.append_assoc, List.singleton_append]
    exact EnvQ.zip (h.cons hl.1) hl.2
  | n :: ns, [], _ :: _, env, env', h, hl => hl.elim
  | n :: ns, _ :: _, [], env, env', h, hl => hl.elim

end Go.Lite

/-
  A run among other cells is the same: eval, force, apply, print.
-/
namespace Go.Lite
set_option maxRecDepth 100000
set_option linter.unusedVariables false
set_option linter.unusedSimpArgs false
variable {w : Str}

theorem letEnv_q : ∀ {ns : List Str} {i j : Nat} {r : List Nat} {env env' : Env}, EnvQ w r env env' → (∀ m, m < ns.length → r[i + m]? = some (j + m)) → EnvQ w r (letEnv ns i env) (letEnv ns j env')
  | [], i, j, r, env, env', h, _ => h
  | n :: ns, i, j, r, env, env', h, hr => by
    rw [letEnv, letEnv]
    refine letEnv_q (h.cons (by have := hr 0 (by simp); simpa using this)) fun m hm => ?_
    have := hr (m + 1) (by simp; omega)
    rw [show i + 1 + m = i + (m + 1) by omega, show j + 1 + m = j + (m + 1) by omega]; exact this

theorem StQ.more {r : List Nat} {d u : Nat} {s s' : S} (h : StQ w r d u s s') {α : Type} {l : List α} {f g : α → C} (hc : ∀ x ∈ l, CellQ w (r ++ List.range' s'.cells.length l.length) (f x) (g x)) :
    StQ w (r ++ List.range' s'.cells.length l.length) d u (s.more (l.map f)) (s'.more (l.map g)) where
  len := by simp [S.more, h.len]
  nodup := by
    rw [List.nodup_append]
    refine ⟨h.nodup, List.nodup_range', ?_⟩
    intro a ha b hb e
    have := h.low a ha
    rw [List.mem_range'_1] at hb
    omega
  low := by
    intro j hj
    simp only [S.more, List.length_append, List.length_map]
    rcases List.mem_append.1 hj with hj | hj
    · have := h.low j hj; omega
    · rw [List.mem_range'_1] at hj; omega
  cells := by
    intro i j c0 hj hi
    simp only [S.more] at hi ⊢
    by_cases hl : i < s.cells.length
    · rw [List.getElem?_append_left (by rw [h.len]; exact hl)] at hj
      rw [List.getElem?_append_left hl] at hi
      obtain ⟨c1, h1, h2⟩ := h.cells i j c0 hj hi
      exact ⟨c1, by rw [List.getElem?_append_left (List.getElem?_eq_some_iff.1 h1).1]; exact h1, h2.more⟩
    · rw [List.getElem?_append_right (by rw [h.len]; omega), h.len] at hj
      rw [List.getElem?_append_right (by omega), List.getElem?_map] at hi
      obtain ⟨x, hx, rfl⟩ := Option.map_eq_some_iff.1 hi
      have hxl : i - s.cells.length < l.length := (List.getElem?_eq_some_iff.1 hx).1
      rw [List.getElem?_range' hxl] at hj
      simp only [Nat.one_mul, Option.some.injEq] at hj
      subst hj
      refine ⟨g x, ?_, hc x (List.mem_of_getElem? hx)⟩
      rw [List.getElem?_append_right (by omega), Nat.add_sub_cancel_left, List.getElem?_map, hx]; rfl
  steps := h.steps
  uses := h.uses

/-- Eval here does what Eval there does -/
def SimE (w : Str) (F d u n : Nat) : Prop := ∀ (M : Nat) (r : List Nat) (e : X) (env env' : Env) (s s' : S) (o : O V), e.no w → EnvQ w r env env' → StQ w r d u s s' → M ≤ s'.cells.length → evalA F n e env s = some o → ∃ o', evalA (F + d) n e env' s' = some o' ∧ OutQ w M r d u (ValQ w) o o'
def SimF (w : Str) (F d u n : Nat) : Prop := ∀ (M : Nat) (r : List Nat) (c c' : Nat) (s s' : S) (o : O V), r[c]? = some c' → StQ w r d u s s' → M ≤ s'.cells.length → forceA F n c s = some o → ∃ o', forceA (F + d) n c' s' = some o' ∧ OutQ w M r d u (ValQ w) o o'
def SimA (w : Str) (F d u n : Nat) : Prop := ∀ (M : Nat) (r : List Nat) (v v' : V) (l l' : List Nat) (s s' : S) (o : O V), ValQ w r v v' → LisQ r l l' → StQ w r d u s s' → M ≤ s'.cells.length → applyA F n v l s = some o → ∃ o', applyA (F + d) n v' l' s' = some o' ∧ OutQ w M r d u (ValQ w) o o'

theorem OutQ.more {M : Nat} {r x : List Nat} {d u : Nat} {α : Type} {A : List Nat → α → α → Prop} {o o' : O α} (h : OutQ w M (r ++ x) d u A o o') (hx : ∀ j ∈ x, M ≤ j) : OutQ w M r d u A o o' := by
  cases o with
  | val v s =>
    obtain ⟨y, v', s', h1, h2, h3, h4, h5⟩ := h
    rw [List.append_assoc] at h3 h4
    exact ⟨x ++ y, v', s', h1, fun j hj => (List.mem_append.1 hj).elim (hx j) (h2 j), h3, h4, h5⟩
  | stop k t s => exact h

theorem out_here {M : Nat} {r : List Nat} {d u : Nat} {s s' : S} {v v' : V} (h : StQ w r d u s s') (hM : M ≤ s'.cells.length) (hv : ValQ w r v v') : OutQ w M r d u (ValQ w) (.val v s) (.val v' s') :=
  ⟨[], v', s', rfl, by simp, by simpa using hv, by simpa using h, hM⟩
theorem out_stop {M : Nat} {r : List Nat} {d u : Nat} {s s' : S} {k : Int} {t : Str} {α : Type} {A : List Nat → α → α → Prop} (h : StQ w r d u s s') : OutQ w M r d u A (.stop k t s) (.stop k t s') := ⟨s', rfl, h.steps, h.uses⟩

theorem sim_bind {M : Nat} {r : List Nat} {d u : Nat} {α β : Type} {A : List Nat → α → α → Prop} {B : List Nat → β → β → Prop} {x x' : Option (O α)} {k k' : α → S → Option (O β)} {o : O β}
    (hx : ∀ p, x = some p → ∃ p', x' = some p' ∧ OutQ w M r d u A p p')
    (hk : ∀ y v v' s s' o, (∀ j ∈ y, M ≤ j) → A (r ++ y) v v' → StQ w (r ++ y) d u s s' → M ≤ s'.cells.length → k v s = some o → ∃ o', k' v' s' = some o' ∧ OutQ w M (r ++ y) d u B o o')
    (h : (x.bind fun q => q.bind k) = some o) : ∃ o', (x'.bind fun q => q.bind k') = some o' ∧ OutQ w M r d u B o o' := by
  obtain ⟨p, rfl, h⟩ := Option.bind_eq_some_iff.1 h
  obtain ⟨p', rfl, hp⟩ := hx p rfl
  cases p with
  | stop a t s =>
    obtain ⟨s', rfl, h1, h2⟩ := hp
    obtain rfl := (Option.some.inj h).symm
    exact ⟨_, rfl, s', rfl, h1, h2⟩
  | val v s =>
    obtain ⟨y, v', s', rfl, h1, h2, h3, h4⟩ := hp
    obtain ⟨o', e, q⟩ := hk y v v' s s' o h1 h2 h3 h4 h
    exact ⟨o', e, q.more h1⟩

theorem nums_q {M : Nat} {r : List Nat} {d u : Nat} {s s' : S} {op a b : Str} (h : StQ w r d u s s') (hM : M ≤ s'.cells.length) : OutQ w M r d u (ValQ w) (numsA op a b s) (numsA op a b s') := by
  unfold numsA numA truthV
  simp only []
  repeat' split
  all_goals first
    | exact out_here h hM rfl
    | exact out_stop h

set_option maxHeartbeats 4000000 in
theorem simA (F d u : Nat) : ∀ n, SimE w F d u n ∧ SimF w F d u n ∧ SimA w F d u n := by
  intro n
  induction n with
  | zero => exact ⟨fun _ _ _ _ _ _ _ _ _ _ _ _ h => by simp [evalA] at h, fun _ _ _ _ _ _ _ _ _ _ h => by simp [forceA] at h, fun _ _ _ _ _ _ _ _ _ _ _ _ _ h => by simp [applyA] at h⟩
  | succ n ih =>
    obtain ⟨ihE, ihF, ihA⟩ := ih
    refine ⟨?_, ?_, ?_⟩
    · rintro M r ⟨k, t, ns, l⟩ env env' s s' o hno he hs hM h
      rw [evalA_s] at h ⊢
      have ht := hs.tick
      have hts := ht.steps
      by_cases hg : s.tick.steps > F
      · rw [if_pos hg] at h
        obtain rfl := (Option.some.inj h).symm
        rw [if_pos (by omega)]
        exact ⟨_, rfl, out_stop ht⟩
      rw [if_neg hg] at h
      rw [if_neg (by omega)]
      have hMt : M ≤ s'.tick.cells.length := hM
      obtain ⟨h5', hnos⟩ := hno
      have hn : ∀ x ∈ l, x.no w := (X.nos_iff w l).1 hnos
      unfold evalF at h ⊢
      by_cases h5 : k = 5
      · rw [if_pos h5] at h ⊢
        obtain ⟨x, x1, x2, x3, x4⟩ := look_q (t := t) ht hMt he (h5' h5)
        obtain ⟨o', e, q⟩ := ihF M _ _ _ _ _ o x2 x3 x4 h
        exact ⟨o', e, q.more x1⟩
      rw [if_neg h5] at h ⊢
      by_cases h6 : k = 6
      · rw [if_pos h6] at h ⊢
        obtain rfl := (Option.some.inj h).symm
        exact ⟨_, rfl, out_here ht hMt ⟨env', [], rfl, hnos, he, trivial⟩⟩
      rw [if_neg h6] at h ⊢
      by_cases h7 : k = 7
      · rw [if_pos h7] at h ⊢
        cases l with
        | nil => simp at h
        | cons f la =>
          refine sim_bind (A := ValQ w) (fun p hp => ihE M r f env env' _ _ p (hn f (by simp)) he ht hMt hp) (fun y v v' s1 s1' o y1 hv hs1 hM1 h => ?_) h
          obtain ⟨x, x1, x2, x3, x4⟩ := args_q (l := la) hs1 hM1 he.more hnos.2
          obtain ⟨o', e, q⟩ := ihA M _ v v' _ _ _ _ o hv.more x2 x3 x4 h
          exact ⟨o', e, q.more x1⟩
      rw [if_neg h7] at h ⊢
      by_cases h8 : k = 8
      · rw [if_pos h8] at h ⊢
        rcases l with _ | ⟨c, _ | ⟨a, _ | ⟨b, _ | ⟨d', l⟩⟩⟩⟩
        · simp at h
        · simp at h
        · simp at h
        · refine sim_bind (A := ValQ w) (fun p hp => ihE M r c env env' _ _ p (hn c (by simp)) he ht hMt hp) (fun y v v' s1 s1' o y1 hv hs1 hM1 h => ?_) h
          have hk := hv.kind
          have hf : v'.isFalse = v.isFalse := by simp only [V.isFalse, hk.1, hk.2]
          rw [hf]
          refine ihE M _ _ env env' s1 s1' o ?_ he.more hs1 hM1 h
          by_cases hv2 : v.isFalse = true
          · rw [if_pos hv2]; exact hn b (by simp)
          · rw [if_neg hv2]; exact hn a (by simp)
        · simp at h
      rw [if_neg h8] at h ⊢
      by_cases h9 : k = 9
      · rw [if_pos h9] at h ⊢
        cases hb : l[ns.length]? with
        | none => rw [hb] at h; simp at h
        | some b =>
          rw [hb] at h
          simp only [] at h ⊢
          have hlen : (l.take ns.length).length = ns.length := by
            have := (List.getElem?_eq_some_iff.1 hb).1
            rw [List.length_take]; omega
          have henv : EnvQ w (r ++ List.range' s'.tick.cells.length (l.take ns.length).length) (letEnv ns s.tick.cells.length env) (letEnv ns s'.tick.cells.length env') := by
            refine letEnv_q he.more fun m hm => ?_
            rw [List.getElem?_append_right (by rw [ht.len]; omega), ht.len, Nat.add_sub_cancel_left, List.getElem?_range' (by rw [hlen]; exact hm), Nat.one_mul]
          have hst := ht.more (l := l.take ns.length) (f := fun e => C.wait e (letEnv ns s.tick.cells.length env)) (g := fun e => C.wait e (letEnv ns s'.tick.cells.length env')) (fun x hx => ⟨_, rfl, hn x (List.mem_of_mem_take hx), henv⟩)
          obtain ⟨o', e, q⟩ := ihE M _ b _ _ _ _ o (hn b (List.mem_of_getElem? hb)) henv hst (by simp [S.more]; exact Nat.le_trans hMt (Nat.le_add_right _ _)) h
          refine ⟨o', e, q.more fun j hj => ?_⟩
          rw [List.mem_range'_1] at hj
          omega
      rw [if_neg h9] at h ⊢
      by_cases h10 : k = 10
      · rw [if_pos h10] at h ⊢
        rcases l with _ | ⟨a, _ | ⟨b, _ | ⟨c, l⟩⟩⟩
        · simp at h
        · refine sim_bind (A := ValQ w) (fun p hp => ihE M r a env env' _ _ p (hn a (by simp)) he ht hMt hp) (fun y v v' s1 s1' o y1 hv hs1 hM1 h => ?_) h
          have hk := hv.kind
          unfold prim1F at h ⊢
          by_cases hc : t = carT ∨ t = cdrT
          · rw [if_pos hc] at h ⊢
            cases v with
            | pair p q =>
              obtain ⟨p', q', rfl, hp, hq⟩ := hv
              refine ihF M _ _ _ _ _ o ?_ hs1 hM1 h
              by_cases hcar : t = carT
              · rw [if_pos hcar, if_pos hcar]; exact hp
              · rw [if_neg hcar, if_neg hcar]; exact hq
            | atom k' t' =>
              rw [show v' = .atom k' t' from hv]
              obtain rfl := (Option.some.inj h).symm
              exact ⟨_, rfl, out_stop hs1⟩
            | fn e env g =>
              obtain ⟨k', t', ns', a'⟩ := e
              obtain ⟨_, _, rfl, _⟩ := hv
              obtain rfl := (Option.some.inj h).symm
              exact ⟨_, rfl, out_stop hs1⟩
          rw [if_neg hc] at h ⊢
          have hf : v'.isFalse = v.isFalse := by simp only [V.isFalse, hk.1, hk.2]
          rw [hk.1, hk.2, hf]
          repeat' split at h
          all_goals
            obtain rfl := (Option.some.inj h).symm
            simp only [*, if_true, if_false]
            first
              | exact ⟨_, rfl, out_here hs1 hM1 rfl⟩
              | exact ⟨_, rfl, out_stop hs1⟩
              | (simp; exact out_here hs1 hM1 rfl)
              | (simp; exact out_stop hs1)
        · simp only [prim2F] at h ⊢
          by_cases hc : t = consP
          · rw [if_pos hc] at h ⊢
            obtain rfl := (Option.some.inj h).symm
            obtain ⟨x, x1, x2, x3, x4⟩ := arg_q (e := a) ht hMt he (hn a (by simp))
            obtain ⟨y, y1, y2, y3, y4⟩ := arg_q (e := b) x3 x4 he.more (hn b (by simp))
            refine ⟨_, rfl, x ++ y, _, _, rfl, fun j hj => (List.mem_append.1 hj).elim (x1 j) (y1 j), ?_, ?_, y4⟩
            · rw [← List.append_assoc]
              exact ⟨_, _, rfl, get_more x2, y2⟩
            · rw [← List.append_assoc]; exact y3
          rw [if_neg hc] at h ⊢
          refine sim_bind (A := ValQ w) (fun p hp => ihE M r a env env' _ _ p (hn a (by simp)) he ht hMt hp) (fun y v v' s1 s1' o y1 hv hs1 hM1 h => ?_) h
          have hk := hv.kind
          by_cases hq : t = seqT
          · rw [if_pos hq] at h ⊢
            exact ihE M _ b env env' s1 s1' o (hn b (by simp)) he.more hs1 hM1 h
          rw [if_neg hq] at h ⊢
          by_cases hq2 : t = eqP
          · rw [if_pos hq2] at h ⊢
            refine sim_bind (A := ValQ w) (fun p hp => ihE M _ b env env' _ _ p (hn b (by simp)) he.more hs1 hM1 hp) (fun y v2 v2' s2 s2' o y1 hv2 hs2 hM2 h => ?_) h
            have hk2 := hv2.kind
            obtain rfl := (Option.some.inj h).symm
            rw [hk.1, hk.2, hk2.1, hk2.2]
            exact ⟨_, rfl, out_here hs2 hM2 rfl⟩
          rw [if_neg hq2] at h ⊢
          rw [hk.1, hk.2]
          by_cases hn1 : v.kind ≠ 1
          · rw [if_pos hn1] at h ⊢
            obtain rfl := (Option.some.inj h).symm
            exact ⟨_, rfl, out_stop hs1⟩
          rw [if_neg hn1] at h ⊢
          refine sim_bind (A := ValQ w) (fun p hp => ihE M _ b env env' _ _ p (hn b (by simp)) he.more hs1 hM1 hp) (fun y v2 v2' s2 s2' o y1 hv2 hs2 hM2 h => ?_) h
          have hk2 := hv2.kind
          rw [hk2.1, hk2.2]
          by_cases hn2 : v2.kind ≠ 1
          · rw [if_pos hn2] at h ⊢
            obtain rfl := (Option.some.inj h).symm
            exact ⟨_, rfl, out_stop hs2⟩
          rw [if_neg hn2] at h ⊢
          obtain rfl := (Option.some.inj h).symm
          exact ⟨_, rfl, nums_q hs2 hM2⟩
        · simp at h
      rw [if_neg h10] at h ⊢
      obtain rfl := (Option.some.inj h).symm
      refine ⟨_, rfl, out_here ht hMt ?_⟩
      unfold constV
      repeat' split
      all_goals rfl
    · intro M r c c' s s' o hc hs hM h
      rw [forceA] at h
      cases hcc : s.cells[c]? with
      | none => rw [hcc] at h; simp at h
      | some cl =>
        rw [hcc] at h
        obtain ⟨cl', hcc', hq⟩ := hs.cells c c' cl hc hcc
        rw [forceA, hcc']
        cases cl with
        | done v =>
          obtain ⟨v', rfl, hv⟩ := hq
          obtain rfl := (Option.some.inj h).symm
          exact ⟨_, rfl, out_here hs hM hv⟩
        | busy e env =>
          obtain ⟨env', rfl, _⟩ := hq
          obtain rfl := (Option.some.inj h).symm
          exact ⟨_, rfl, out_stop hs⟩
        | wait e env =>
          obtain ⟨env', rfl, h1, h2⟩ := hq
          simp only [] at h ⊢
          refine sim_bind (A := ValQ w) (fun p hp => ihE M r e env env' _ _ p h1 h2 (hs.set hc (c := .busy e env) (c' := .busy e env') ⟨env', rfl, h1, h2⟩).used (by simpa [S.set, S.used] using hM) hp) (fun y v v' s1 s1' o y1 hv hs1 hM1 h => ?_) h
          obtain rfl := (Option.some.inj h).symm
          exact ⟨_, rfl, out_here (hs1.set (get_more hc) ⟨v', rfl, hv⟩) (by simpa [S.set] using hM1) hv⟩
    · intro M r v v' l l' s s' o hv hl hs hM h
      rw [applyA_s] at h ⊢
      unfold applyF at h ⊢
      have hll := hl.len
      by_cases hn : l = []
      · rw [if_pos hn] at h
        rw [if_pos (List.eq_nil_of_length_eq_zero (by rw [hll, hn]; rfl))]
        obtain rfl := (Option.some.inj h).symm
        exact ⟨_, rfl, out_here hs hM hv⟩
      rw [if_neg hn] at h
      rw [if_neg (fun e => hn (List.eq_nil_of_length_eq_zero (by rw [← hll, e]; rfl)))]
      cases v with
      | atom k t =>
        rw [show v' = .atom k t from hv]
        obtain rfl := (Option.some.inj h).symm
        exact ⟨_, rfl, out_stop hs⟩
      | pair a b =>
        obtain ⟨_, _, rfl, _⟩ := hv
        obtain rfl := (Option.some.inj h).symm
        exact ⟨_, rfl, out_stop hs⟩
      | fn e env g =>
        obtain ⟨k, t, ns, a⟩ := e
        obtain ⟨env', g', rfl, h1, h2, h3⟩ := hv
        simp only [] at h ⊢
        have hgl := h3.len
        rw [hll, hgl]
        by_cases hp : l.length < ns.length - g.length
        · rw [if_pos hp] at h ⊢
          obtain rfl := (Option.some.inj h).symm
          exact ⟨_, rfl, out_here hs hM ⟨env', _, rfl, h1, h2, h3.append hl⟩⟩
        rw [if_neg hp] at h ⊢
        cases a with
        | nil => simp at h
        | cons b a' =>
          simp only [] at h ⊢
          refine sim_bind (A := ValQ w) (fun p hp => ihE M r b _ _ _ _ p h1.1 (h2.zip (h3.append (hl.take _))) hs hM hp) (fun y v2 v2' s1 s1' o y1 hv2 hs1 hM1 h => ?_) h
          exact ihA M _ v2 v2' _ _ s1 s1' o hv2 (hl.drop _).more hs1 hM1 h

/-! ### Prints -/

def TxtQ (w : Str) : List Nat → Str → Str → Prop := fun _ a b => b = a
theorem say_q {M : Nat} {r : List Nat} {d u : Nat} {s s' : S} {out t : Str} (h : StQ w r d u s s') (hM : M ≤ s'.cells.length) : OutQ w M r d u (TxtQ w) (sayA out t s) (sayA out t s') := by
  unfold sayA
  split
  · exact out_stop h
  · exact ⟨[], _, s', rfl, by simp, rfl, by simpa using h, hM⟩

theorem say_bind_q {M : Nat} {r : List Nat} {d u : Nat} {s s' : S} {out t : Str} {k k' : Str → S → Option (O Str)} {o : O Str} (hs : StQ w r d u s s') (hM : M ≤ s'.cells.length)
    (hk : ∀ out o, k out s = some o → ∃ o', k' out s' = some o' ∧ OutQ w M r d u (TxtQ w) o o') (h : (sayA out t s).bind k = some o) : ∃ o', (sayA out t s').bind k' = some o' ∧ OutQ w M r d u (TxtQ w) o o' := by
  unfold sayA at h ⊢
  by_cases hc : out.length + t.length > 2000
  · rw [if_pos hc] at h ⊢
    obtain rfl := (Option.some.inj h).symm
    exact ⟨_, rfl, out_stop hs⟩
  · rw [if_neg hc] at h ⊢
    exact hk _ o h

set_option maxHeartbeats 2000000 in
theorem simP (F d u : Nat) : ∀ n,
    (∀ (M : Nat) (r : List Nat) (out : Str) (v v' : V) (s s' : S) (o : O Str), ValQ w r v v' → StQ w r d u s s' → M ≤ s'.cells.length → printA F n out v s = some o → ∃ o', printA (F + d) n out v' s' = some o' ∧ OutQ w M r d u (TxtQ w) o o') ∧
    (∀ (M : Nat) (r : List Nat) (out : Str) (a b a' b' : Nat) (s s' : S) (o : O Str), r[a]? = some a' → r[b]? = some b' → StQ w r d u s s' → M ≤ s'.cells.length → rowA F n out a b s = some o → ∃ o', rowA (F + d) n out a' b' s' = some o' ∧ OutQ w M r d u (TxtQ w) o o') := by
  intro n
  induction n with
  | zero => exact ⟨fun _ _ _ _ _ _ _ _ _ _ _ h => by simp [printA] at h, fun _ _ _ _ _ _ _ _ _ _ _ _ _ _ h => by simp [rowA] at h⟩
  | succ n ih =>
    obtain ⟨ihP, ihR⟩ := ih
    refine ⟨?_, ?_⟩
    · intro M r out v v' s s' o hv hs hM h
      rw [printA_s] at h ⊢
      cases v with
      | atom k t =>
        rw [show v' = .atom k t from hv]
        obtain rfl := (Option.some.inj h).symm
        exact ⟨_, rfl, say_q hs hM⟩
      | fn e env g =>
        obtain ⟨k, t, ns, a⟩ := e
        obtain ⟨_, _, rfl, _⟩ := hv
        obtain rfl := (Option.some.inj h).symm
        exact ⟨_, rfl, say_q hs hM⟩
      | pair a b =>
        obtain ⟨a', b', rfl, h1, h2⟩ := hv
        exact say_bind_q hs hM (fun out o h => ihR M r out a b a' b' s s' o h1 h2 hs hM h) h
    · intro M r out a b a' b' s s' o ha hb hs hM h
      rw [rowA] at h ⊢
      refine sim_bind (A := ValQ w) (fun p hp => (simA F d u n).2.1 M r a a' s s' p ha hs hM hp) (fun y v v' s1 s1' o y1 hv hs1 hM1 h => ?_) h
      refine sim_bind (A := TxtQ w) (fun p hp => ihP M _ out v v' s1 s1' p hv hs1 hM1 hp) (fun y2 out2 out2' s2 s2' o y3 ho hs2 hM2 h => ?_) h
      have ho : out2' = out2 := ho
      subst ho
      refine sim_bind (A := ValQ w) (fun p hp => (simA F d u n).2.1 M _ b b' s2 s2' p (get_more (get_more hb)) hs2 hM2 hp) (fun y4 v2 v2' s3 s3' o y5 hv2 hs3 hM3 h => ?_) h
      have hk := hv2.kind
      have rest : ∀ (x x' : V), x'.kind = x.kind → ValQ w (((r ++ y) ++ y2) ++ y4) x x' → (if x.kind = 3 then some (sayA out2' [41] s3) else (sayA out2' [32, 46, 32] s3).bind fun out s => (printA F n out x s).bind fun r => r.bind fun out s => some (sayA out [41] s)) = some o →
          ∃ o', (if x'.kind = 3 then some (sayA out2' [41] s3') else (sayA out2' [32, 46, 32] s3').bind fun out s => (printA (F + d) n out x' s).bind fun r => r.bind fun out s => some (sayA out [41] s)) = some o' ∧ OutQ w M (((r ++ y) ++ y2) ++ y4) d u (TxtQ w) o o' := by
        intro x x' hkx hvx h
        rw [hkx]
        by_cases h3 : x.kind = 3
        · rw [if_pos h3] at h ⊢
          obtain rfl := (Option.some.inj h).symm
          exact ⟨_, rfl, say_q hs3 hM3⟩
        rw [if_neg h3] at h ⊢
        refine say_bind_q hs3 hM3 (fun out o h => ?_) h
        refine sim_bind (A := TxtQ w) (fun p hp => ihP M _ out x x' s3 s3' p hvx hs3 hM3 hp) (fun y6 o2 o2' s4 s4' o y7 ho hs4 hM4 h => ?_) h
        have ho : o2' = o2 := ho
        subst ho
        obtain rfl := (Option.some.inj h).symm
        exact ⟨_, rfl, say_q hs4 hM4⟩
      cases v2 with
      | atom k t =>
        rw [show v2' = .atom k t from hv2] at hk ⊢
        exact rest (.atom k t) (.atom k t) rfl rfl h
      | fn e env g =>
        obtain ⟨k, t, ns, a2⟩ := e
        have hv3 := hv2
        obtain ⟨env', g', rfl, _⟩ := hv2
        exact rest (.fn (.mk k t ns a2) env g) (.fn (.mk k t ns a2) env' g') rfl hv3 h
      | pair c d' =>
        obtain ⟨c', d'', rfl, g1, g2⟩ := hv2
        exact say_bind_q hs3 hM3 (fun out o h => ihR M _ out c d' c' d'' s3 s3' o g1 g2 hs3 hM3 h) h

end Go.Lite

/-
  Plain laws of the machine: what is not asked for, what is asked for twice.
-/
namespace Go.Lite
set_option maxRecDepth 100000
set_option linter.unusedVariables false
set_option linter.unusedSimpArgs false

def neverT : Str := [110, 101, 118, 101, 114]
def wT : Str := [119]
def seqX (a b : X) : X := .mk 10 seqT [] [a, b]
def twiceX (e : X) : X := bindX wT e (seqX (varX wT) (seqX (varX wT) (varX wT)))

theorem never_out (e : X) (n : Nat) : ∃ s, outA (n + 3) (bindX neverT e oneX) [] 2 = some (.val [49] s) ∧ s.steps = 2 ∧ s.uses = 0 := by
  unfold outA
  refine ⟨⟨[.done (.atom 3 emptyT), .wait e [(neverT, 1), (inputT, 0)]], 2, 0⟩, ?_, rfl, rfl⟩
  simp [bindX, oneX, evalA_s, evalF, S.tick, S.more, letEnv, constV, O.bind, inputA, S.new, printA_s, sayA]

theorem seq_eval {F n : Nat} {a b : X} {env : Env} {s : S} (h : s.steps + 1 ≤ F) : evalA F (n + 1) (seqX a b) env s = (evalA F n a env s.tick).bind fun r => r.bind fun v s => evalA F n b env s := by
  rw [seqX, evalA_s, if_neg (by simp only [S.tick]; omega)]
  unfold evalF
  rw [if_neg (by decide), if_neg (by decide), if_neg (by decide), if_neg (by decide), if_neg (by decide), if_pos rfl]
  simp only [prim2F]
  rw [if_neg (by decide)]
  simp only [if_true]
theorem var_eval {F n i : Nat} {t : Str} {env : Env} {s : S} (h : s.steps + 1 ≤ F) (he : lookA env t s.tick = (i, s.tick)) : evalA F (n + 1) (varX t) env s = forceA F n i s.tick := by
  rw [varX, evalA_s, if_neg (by simp only [S.tick]; omega)]
  unfold evalF
  rw [if_pos rfl, he]

theorem twice_out {e : X} (hw : e.wf) (hno : e.no wT) {N : Nat} (hN : deep 3000 ≤ N) {o : O Str} (h : outA N e [] 1000 = some o) (hk : o.kind ≠ 6) :
    ∃ o', outA (N + 6) (twiceX e) [] 3000 = some o' ∧ o'.kind = o.kind ∧ o'.txt = o.txt ∧ (o.kind = 1 → o'.st.steps = o.st.steps + 6 ∧ o'.st.uses = o.st.uses + 1) := by
  unfold deep at hN
  have hz : inputA [] ⟨[], 0, 0⟩ = (0, s0) := rfl
  have h0 : S.ok s0 := fun c hc => by
    simp only [s0, List.mem_singleton] at hc
    subst hc; trivial
  have hin : EnvIn s0.cells.length [(inputT, 0)] := fun p hp => by
    simp only [List.mem_singleton] at hp
    subst hp; decide
  -- at a fuel of 2994 it is the same
  obtain ⟨o2, ho2, go2⟩ := outA_total e hw [] 2994 N (by unfold deep; omega)
  have e2 := fuel_more (by omega) h ho2 hk
  subst e2
  have ho2' := ho2
  unfold outA at ho2
  rw [hz] at ho2
  simp only [] at ho2
  obtain ⟨p, hp, hpr⟩ := Option.bind_eq_some_iff.1 ho2
  -- the value, at a fuel of 2997
  obtain ⟨p2, hp2, gp2⟩ := (totalA 2997 N).1 e [(inputT, 0)] s0 hw hin h0 (Nat.zero_le _) (by simp [s0]; omega)
  have hpp : p2 = p := by
    have hc := ((cutA 2994 2997 (by omega) N).1 e _ _ p2 hp2).2 (Nat.zero_le _)
    rcases Nat.lt_or_ge 2994 p2.st.steps with hlt | hge
    · obtain ⟨s', hs', _⟩ := hc.2 hlt
      rw [hp] at hs'
      have := Option.some.inj hs'
      subst this
      have : o2 = .stop 6 [] s' := (Option.some.inj hpr).symm
      subst this
      exact absurd rfl hk
    · have := hc.1 hge
      rw [hp] at this
      exact (Option.some.inj this).symm
  subst hpp
  -- the cells here
  have hst : StQ wT [0] 3 1 s0 ⟨[.done (.atom 3 emptyT), .busy e [(wT, 1), (inputT, 0)]], 3, 1⟩ := by
    refine ⟨rfl, by simp, by simp, fun i j c hj hi => ?_, rfl, rfl⟩
    have hi0 : i = 0 := by
      have := (List.getElem?_eq_some_iff.1 hi).1
      simp [s0] at this; omega
    subst hi0
    simp only [List.getElem?_cons_zero, Option.some.injEq, s0] at hj hi
    subst hj hi
    exact ⟨_, rfl, _, rfl, rfl⟩
  have henv : EnvQ wT [0] [(inputT, 0)] [(wT, 1), (inputT, 0)] := by
    intro t ht
    have hwt : (wT == t) = false := by simpa using fun e => ht e.symm
    refine ⟨fun q hq => ?_, fun hq => ?_⟩
    · by_cases hit : (inputT == t) = true
      · simp only [List.find?_cons, hit, Option.some.injEq] at hq
        subst hq
        exact ⟨(inputT, 0), by simp only [List.find?_cons, hwt, hit], rfl⟩
      · have hit : (inputT == t) = false := by simpa using hit
        simp only [List.find?_cons, hit, List.find?_nil] at hq
        cases hq
    · by_cases hit : (inputT == t) = true
      · simp only [List.find?_cons, hit] at hq
        cases hq
      · have hit : (inputT == t) = false := by simpa using hit
        simp only [List.find?_cons, hwt, hit, List.find?_nil]
  obtain ⟨p', hp', hq⟩ := (simA 2997 3 1 N).1 2 [0] e _ _ _ _ p2 hno henv hst (by simp) hp2
  -- how the term goes
  have hl : ∀ s : S, lookA [(wT, 1), (inputT, 0)] wT s = (1, s) := fun s => by
    unfold lookA
    simp only [List.find?_cons, beq_self_eq_true]
  have hgo : evalA 3000 (N + 5) (twiceX e) [(inputT, 0)] s0 = p'.bind fun v s => (evalA 3000 (N + 3) (seqX (varX wT) (varX wT)) [(wT, 1), (inputT, 0)] (s.set 1 (.done v))) := by
    have e1 : evalA 3000 (N + 5) (twiceX e) [(inputT, 0)] s0 = evalA 3000 (N + 4) (seqX (varX wT) (seqX (varX wT) (varX wT))) [(wT, 1), (inputT, 0)] ⟨[.done (.atom 3 emptyT), .wait e [(wT, 1), (inputT, 0)]], 1, 0⟩ := by
      rw [twiceX, bindX, evalA_s, if_neg (by simp [S.tick, s0])]
      unfold evalF
      rw [if_neg (by decide), if_neg (by decide), if_neg (by decide), if_neg (by decide), if_pos rfl]
      rfl
    rw [e1, seq_eval (by simp), var_eval (i := 1) (by simp [S.tick]) (hl _)]
    rw [forceA]
    simp only [S.tick, List.getElem?_cons_succ, List.getElem?_cons_zero]
    have e2 : (S.set ⟨[.done (.atom 3 emptyT), .wait e [(wT, 1), (inputT, 0)]], 1 + 1 + 1, 0⟩ 1 (.busy e [(wT, 1), (inputT, 0)])).used = ⟨[.done (.atom 3 emptyT), .busy e [(wT, 1), (inputT, 0)]], 3, 1⟩ := rfl
    have hp3 : evalA 3000 N e [(wT, 1), (inputT, 0)] ⟨[.done (.atom 3 emptyT), .busy e [(wT, 1), (inputT, 0)]], 3, 1⟩ = some p' := hp'
    rw [e2, eval_up (by omega : N ≤ N + 1) _ _ _ _ hp3]
    cases p' with
    | stop k t s => rfl
    | val v s => rfl
  have hN6 : ∀ q, p'.bind (fun v s => (evalA 3000 (N + 3) (seqX (varX wT) (varX wT)) [(wT, 1), (inputT, 0)] (s.set 1 (.done v)))) = some q → evalA 3000 (N + 6) (twiceX e) [(inputT, 0)] s0 = some q := fun q hq => eval_up (by omega : N + 5 ≤ N + 6) _ _ _ _ (hgo.trans hq)
  unfold outA
  rw [hz]
  simp only []
  cases p2 with
  | stop k t s1 =>
    obtain ⟨s1', rfl, q1, q2⟩ := hq
    obtain rfl := (Option.some.inj hpr).symm
    rw [hN6 _ rfl]
    refine ⟨_, rfl, rfl, rfl, fun h1 => ?_⟩
    have hkk := gp2.2.1
    have h1 : k = 1 := h1
    omega
  | val v s1 =>
    obtain ⟨x, v', s1', rfl, hx, hv, hs1, hM1⟩ := hq
    have hpr : printA 2994 N [] v s1 = some o2 := hpr
    have hstep : s1.steps ≤ 2994 := by
      obtain ⟨p3, hp3, gp3⟩ := (totalA 2994 N).1 e [(inputT, 0)] s0 hw hin h0 (Nat.zero_le _) (by simp [s0]; omega)
      rw [hp] at hp3
      obtain rfl := Option.some.inj hp3
      exact gp3.2.2.2.2
    have hst1 := hs1.steps
    have hc1 : (s1'.set 1 (.done v')).cells[1]? = some (.done v') := by
      simp only [S.set]
      rw [List.getElem?_set_self (by omega)]
    have hfd : ∀ (m : Nat) (s : S), s.cells = (s1'.set 1 (.done v')).cells → forceA 3000 (m + 1) 1 s = some (.val v' s) := fun m s hs => by
      rw [forceA, hs, hc1]
    have hsec : evalA 3000 (N + 3) (seqX (varX wT) (varX wT)) [(wT, 1), (inputT, 0)] (s1'.set 1 (.done v')) = some (.val v' ⟨(s1'.set 1 (.done v')).cells, s1'.steps + 3, s1'.uses⟩) := by
      rw [seq_eval (by simp only [S.set]; omega), var_eval (i := 1) (by simp only [S.tick, S.set]; omega) (hl _), hfd _ (s1'.set 1 (.done v')).tick.tick rfl]
      simp only [Option.bind_some, O.bind]
      rw [var_eval (i := 1) (by simp only [S.tick, S.set]; omega) (hl _), hfd _ (s1'.set 1 (.done v')).tick.tick.tick rfl]; rfl
    rw [hN6 _ hsec]
    have hst3 : StQ wT ([0] ++ x) 6 1 s1 ⟨(s1'.set 1 (.done v')).cells, s1'.steps + 3, s1'.uses⟩ := by
      refine ⟨hs1.len, hs1.nodup, fun j hj => by simpa [S.set] using hs1.low j hj, fun i j c hj hi => ?_, by simp only; omega, hs1.uses⟩
      obtain ⟨c', h1, h2⟩ := hs1.cells i j c hj hi
      refine ⟨c', ?_, h2⟩
      have hj1 : 1 ≠ j := by
        rintro rfl
        have := List.mem_of_getElem? hj
        rcases List.mem_append.1 this with h | h
        · simp at h
        · have := hx _ h; omega
      simp only [S.set]
      rw [List.getElem?_set_ne hj1]; exact h1
    obtain ⟨o', ho', hq'⟩ := (simP 2994 6 1 N).1 2 ([0] ++ x) [] v v' _ _ o2 hv hst3 (by simpa [S.set] using hM1) hpr
    refine ⟨o', print_up (by omega : N ≤ N + 6) _ _ _ _ ho', ?_⟩
    cases o2 with
    | stop k t s4 =>
      obtain ⟨s4', rfl, q1, q2⟩ := hq'
      refine ⟨rfl, rfl, fun h1 => ?_⟩
      have hkk := go2.2.1
      have h1 : k = 1 := h1
      omega
    | val out s4 =>
      obtain ⟨y, out', s4', rfl, _, ht, hs4, _⟩ := hq'
      have ht : out' = out := ht
      subst ht
      exact ⟨rfl, rfl, fun _ => ⟨hs4.steps, hs4.uses⟩⟩

end Go.Lite

/-
  No more uses than steps.
-/
namespace Go.Lite
set_option maxRecDepth 100000
set_option linter.unusedVariables false
set_option linter.unusedSimpArgs false

theorem look_uses (env : Env) (t : Str) (s : S) : (lookA env t s).2.uses = s.uses := by
  unfold lookA; split <;> rfl
theorem arg_uses (e : X) (env : Env) (s : S) : (argA e env s).2.uses = s.uses := by
  obtain ⟨k, t, ns, l⟩ := e
  unfold argA
  simp only []
  split
  · exact look_uses _ _ _
  split <;> rfl
theorem args_uses (env : Env) : ∀ (l : List X) (s : S), (argsA env l s).2.uses = s.uses
  | [], s => rfl
  | e :: l, s => by rw [argsA]; exact (args_uses env l _).trans (arg_uses _ _ _)

def Ub {α : Type} (s : S) (o : O α) : Prop := o.st.uses + s.steps ≤ s.uses + o.st.steps
theorem ub_here {α : Type} {s : S} {o : O α} (h : o.st.steps = s.steps) (h2 : o.st.uses = s.uses) : Ub s o := by unfold Ub; omega
theorem Ub.of {α : Type} {s s' : S} {o : O α} (h : Ub s' o) (h1 : s'.steps = s.steps) (h2 : s'.uses = s.uses) : Ub s o := by unfold Ub at *; omega
theorem Ub.step {α : Type} {s : S} {o : O α} (h : Ub s.tick o) : Ub s o := by unfold Ub at *; simp only [S.tick] at h; omega
theorem ub_bind {α β : Type} {s : S} {x : Option (O α)} {k : α → S → Option (O β)} {o : O β} (hx : ∀ p, x = some p → Ub s p) (hk : ∀ a s2 o, k a s2 = some o → Ub s2 o) (h : (x.bind fun r => r.bind k) = some o) : Ub s o := by
  obtain ⟨p, rfl, h⟩ := Option.bind_eq_some_iff.1 h
  have h1 := hx p rfl
  cases p with
  | stop a t s2 =>
    obtain rfl := (Option.some.inj h).symm
    exact h1
  | val a s2 =>
    have h2 := hk a s2 o h
    unfold Ub at *
    simp only [O.st] at h1
    omega

theorem usesA (f : Nat) : ∀ n : Nat,
    (∀ (e : X) (env : Env) (s : S) (o : O V), evalA f n e env s = some o → Ub s.tick o) ∧
    (∀ (c : Nat) (s : S) (o : O V), forceA f n c s = some o → Ub s o) ∧
    (∀ (v : V) (l : List Nat) (s : S) (o : O V), applyA f n v l s = some o → Ub s o) := by
  intro n
  induction n with
  | zero => exact ⟨fun _ _ _ _ h => by simp [evalA] at h, fun _ _ _ h => by simp [forceA] at h, fun _ _ _ _ h => by simp [applyA] at h⟩
  | succ n ih =>
    obtain ⟨ihE, ihF, ihA⟩ := ih
    have ihS : ∀ (e : X) (env : Env) (s : S) (o : O V), evalA f n e env s = some o → Ub s o := fun e env s o h => (ihE e env s o h).step
    refine ⟨?_, ?_, ?_⟩
    · rintro ⟨k, t, ns, l⟩ env s o h
      rw [evalA_s] at h
      by_cases hg : s.tick.steps > f
      · rw [if_pos hg] at h
        obtain rfl := (Option.some.inj h).symm
        exact ub_here rfl rfl
      rw [if_neg hg] at h
      unfold evalF at h
      by_cases h5 : k = 5
      · rw [if_pos h5] at h
        exact (ihF _ _ _ h).of (look_steps _ _ _) (look_uses _ _ _)
      rw [if_neg h5] at h
      by_cases h6 : k = 6
      · rw [if_pos h6] at h
        obtain rfl := (Option.some.inj h).symm
        exact ub_here rfl rfl
      rw [if_neg h6] at h
      by_cases h7 : k = 7
      · rw [if_pos h7] at h
        cases l with
        | nil => simp at h
        | cons g la => exact ub_bind (fun p hp => ihS _ _ _ _ hp) (fun v s2 o h => (ihA _ _ _ _ h).of (args_steps _ _ _) (args_uses _ _ _)) h
      rw [if_neg h7] at h
      by_cases h8 : k = 8
      · rw [if_pos h8] at h
        rcases l with _ | ⟨c, _ | ⟨a, _ | ⟨b, _ | ⟨d, l⟩⟩⟩⟩
        all_goals first
          | (simp at h; done)
          | exact ub_bind (fun p hp => ihS _ _ _ _ hp) (fun v s2 o h => ihS _ _ _ _ h) h
      rw [if_neg h8] at h
      by_cases h9 : k = 9
      · rw [if_pos h9] at h
        cases hb : l[ns.length]? with
        | none => rw [hb] at h; simp at h
        | some b =>
          rw [hb] at h
          exact (ihS _ _ _ _ h).of rfl rfl
      rw [if_neg h9] at h
      by_cases h10 : k = 10
      · rw [if_pos h10] at h
        rcases l with _ | ⟨a, _ | ⟨b, _ | ⟨c, l⟩⟩⟩
        · simp at h
        · refine ub_bind (fun p hp => ihS _ _ _ _ hp) (fun v s2 o h => ?_) h
          unfold prim1F at h
          by_cases hc : t = carT ∨ t = cdrT
          · rw [if_pos hc] at h
            cases v with
            | pair p q => exact ihF _ _ _ h
            | atom k t => obtain rfl := (Option.some.inj h).symm; exact ub_here rfl rfl
            | fn e env g => obtain rfl := (Option.some.inj h).symm; exact ub_here rfl rfl
          rw [if_neg hc] at h
          repeat' split at h
          all_goals
            obtain rfl := (Option.some.inj h).symm
            exact ub_here rfl rfl
        · simp only [prim2F] at h
          by_cases hc : t = consP
          · rw [if_pos hc] at h
            obtain rfl := (Option.some.inj h).symm
            exact ub_here (by simp only [O.st, arg_steps]) (by simp only [O.st, arg_uses])
          rw [if_neg hc] at h
          refine ub_bind (fun p hp => ihS _ _ _ _ hp) (fun v s2 o h => ?_) h
          by_cases hs : t = seqT
          · rw [if_pos hs] at h
            exact ihS _ _ _ _ h
          rw [if_neg hs] at h
          by_cases hq : t = eqP
          · rw [if_pos hq] at h
            refine ub_bind (fun p hp => ihS _ _ _ _ hp) (fun w s3 o h => ?_) h
            obtain rfl := (Option.some.inj h).symm
            exact ub_here rfl rfl
          rw [if_neg hq] at h
          by_cases hn : v.kind ≠ 1
          · rw [if_pos hn] at h
            obtain rfl := (Option.some.inj h).symm
            exact ub_here rfl rfl
          rw [if_neg hn] at h
          refine ub_bind (fun p hp => ihS _ _ _ _ hp) (fun w s3 o h => ?_) h
          by_cases hw : w.kind ≠ 1
          · rw [if_pos hw] at h
            obtain rfl := (Option.some.inj h).symm
            exact ub_here rfl rfl
          rw [if_neg hw] at h
          obtain rfl := (Option.some.inj h).symm
          exact ub_here (by rw [nums_st]) (by rw [nums_st])
        · simp at h
      rw [if_neg h10] at h
      obtain rfl := (Option.some.inj h).symm
      exact ub_here rfl rfl
    · intro c s o h
      rw [forceA] at h
      cases hc : s.cells[c]? with
      | none => rw [hc] at h; simp at h
      | some cl =>
        rw [hc] at h
        cases cl with
        | done v => obtain rfl := (Option.some.inj h).symm; exact ub_here rfl rfl
        | busy e env => obtain rfl := (Option.some.inj h).symm; exact ub_here rfl rfl
        | wait e env =>
          simp only [] at h
          obtain ⟨p, hp, h⟩ := Option.bind_eq_some_iff.1 h
          have h1 := ihE _ _ _ _ hp
          unfold Ub at *
          simp only [S.tick, S.used, S.set] at h1
          cases p with
          | stop a t s2 =>
            obtain rfl := (Option.some.inj h).symm
            omega
          | val a s2 =>
            obtain rfl := (Option.some.inj h).symm
            simp only [O.st, S.set] at *
            omega
    · intro v l s o h
      rw [applyA_s] at h
      unfold applyF at h
      by_cases hl : l = []
      · rw [if_pos hl] at h
        obtain rfl := (Option.some.inj h).symm; exact ub_here rfl rfl
      rw [if_neg hl] at h
      cases v with
      | atom k t => obtain rfl := (Option.some.inj h).symm; exact ub_here rfl rfl
      | pair a b => obtain rfl := (Option.some.inj h).symm; exact ub_here rfl rfl
      | fn e env g =>
        obtain ⟨k, t, ns, a⟩ := e
        simp only [] at h
        split at h
        · obtain rfl := (Option.some.inj h).symm; exact ub_here rfl rfl
        · cases a with
          | nil => simp at h
          | cons b a' => exact ub_bind (fun p hp => ihS _ _ _ _ hp) (fun v s2 o h => ihA _ _ _ _ h) h

theorem say_ub {out t : Str} {s : S} {k : Str → S → Option (O Str)} {o : O Str} (hk : ∀ a o, k a s = some o → Ub s o) (h : (sayA out t s).bind k = some o) : Ub s o := by
  unfold sayA at h
  by_cases hc : out.length + t.length > 2000
  · rw [if_pos hc] at h
    obtain rfl := (Option.some.inj h).symm
    exact ub_here rfl rfl
  · rw [if_neg hc] at h
    exact hk _ _ h
theorem say_ub0 (out t : Str) (s : S) : Ub s (sayA out t s) := ub_here (by rw [say_st]) (by rw [say_st])

theorem usesP (f : Nat) : ∀ n : Nat,
    (∀ (out : Str) (v : V) (s : S) (o : O Str), printA f n out v s = some o → Ub s o) ∧
    (∀ (out : Str) (a b : Nat) (s : S) (o : O Str), rowA f n out a b s = some o → Ub s o) := by
  intro n
  induction n with
  | zero => exact ⟨fun _ _ _ _ h => by simp [printA] at h, fun _ _ _ _ _ h => by simp [rowA] at h⟩
  | succ n ih =>
    obtain ⟨ihP, ihR⟩ := ih
    refine ⟨?_, ?_⟩
    · intro out v s o h
      rw [printA_s] at h
      cases v with
      | atom k t => obtain rfl := (Option.some.inj h).symm; exact say_ub0 _ _ _
      | fn e env g => obtain rfl := (Option.some.inj h).symm; exact say_ub0 _ _ _
      | pair a b => exact say_ub (fun out2 o h => ihR _ _ _ _ _ h) h
    · intro out a b s o h
      rw [rowA] at h
      refine ub_bind (fun p hp => (usesA f n).2.1 _ _ _ hp) (fun v s2 o h => ?_) h
      refine ub_bind (fun p hp => ihP _ _ _ _ hp) (fun out2 s3 o h => ?_) h
      refine ub_bind (fun p hp => (usesA f n).2.1 _ _ _ hp) (fun w s4 o h => ?_) h
      have rest : ∀ w : V, (if w.kind = 3 then some (sayA out2 [41] s4) else (sayA out2 [32, 46, 32] s4).bind fun out s => (printA f n out w s).bind fun r => r.bind fun out s => some (sayA out [41] s)) = some o → Ub s4 o := by
        intro w h
        by_cases hk : w.kind = 3
        · rw [if_pos hk] at h
          obtain rfl := (Option.some.inj h).symm; exact say_ub0 _ _ _
        rw [if_neg hk] at h
        refine say_ub (fun out5 o h => ?_) h
        refine ub_bind (fun p hp => ihP _ _ _ _ hp) (fun out6 s6 o h => ?_) h
        obtain rfl := (Option.some.inj h).symm; exact say_ub0 _ _ _
      cases w with
      | atom k t => exact rest _ h
      | fn e env g => exact rest _ h
      | pair c d => exact say_ub (fun out5 o h => ihR _ _ _ _ _ h) h

theorem out_uses {n f : Nat} {e : X} {o : O Str} (h : outA n e [] f = some o) : o.st.uses ≤ o.st.steps := by
  have := ub_bind (s := (inputA [] ⟨[], 0, 0⟩).2) (fun p hp => ((usesA f n).1 _ _ _ p hp).step) (fun v s2 o h => (usesP f n).1 _ _ _ _ h) h
  unfold Ub at this
  have h0 : (inputA [] ⟨[], 0, 0⟩).2.steps = 0 := rfl
  have h1 : (inputA [] ⟨[], 0, 0⟩).2.uses = 0 := rfl
  omega

end Go.Lite

/-
  The slimmed code of the functions, printed by program, and that it is what is computed from the program.
-/
namespace Go.Lite
open Go Go.Proofs
set_option maxRecDepth 100000
-- thunk/thunklaw10.NaturalLazy
def c4 : SFunc := ⟨106, (.seq (.ops [.mk (some 4) none (.p (.move (.lit (.bool false))))])
  (.seq (.seq (.ops [.mk (some 18) none (.call (.lit (.func 11 [])) []), .mk (some 19) none (.p (.not (.tmp 18)))])
  (.cond (.tmp 19)
  (.seq (.ops [.mk (some 4) none (.p (.move (.lit (.bool false))))])
  .ret)
  .skip))
  (.seq (.seq (.ops [.mk (some 20) none (.p (.move (.tmp 0))), .mk (some 21) none (.call (.lit (.func 12 [])) [.tmp 20]), .mk (some 22) none (.p (.not (.tmp 21)))])
  (.cond (.tmp 22)
  (.seq (.ops [.mk (some 4) none (.p (.move (.lit (.bool true))))])
  .ret)
  .skip))
  (.seq (.ops [.mk (some 23) none (.p (.move (.tmp 0))), .mk (some 24) none (.call (.lit (.func 13 [])) [.tmp 23]), .mk (some 5) none (.a (.newc 28 [.int IntKind.i64 0, .str [], .nils, .nils])), .mk none none (.w (.store 4 (.tmp 5) (.tmp 24)))])
  (.seq (.ops [.mk (some 25) none (.p (.build [.int IntKind.i64 0, .str [], .nils, .nils] [(0, 1, .lit (.int IntKind.i64 1)), (1, 1, .lit (.str [49]))])), .mk (some 6) none (.a (.newc 28 [.int IntKind.i64 0, .str [], .nils, .nils])), .mk none none (.w (.store 4 (.tmp 6) (.tmp 25)))])
  (.seq (.ops [.mk (some 26) none (.p (.loadn 4 (.tmp 5))), .mk (some 27) none (.p (.loadn 4 (.tmp 6))), .mk (some 28) none (.call (.lit (.func 16 [])) [.lit (.str [110, 101, 118, 101, 114]), .tmp 26, .tmp 27]), .mk (some 7) none (.a (.newc 28 [.int IntKind.i64 0, .str [], .nils, .nils])), .mk none none (.w (.store 4 (.tmp 7) (.tmp 28)))])
  (.seq (.ops [.mk (some 30) none (.p (.loadn 4 (.tmp 7))), .mk (some 31) none (.call (.lit (.func 14 [])) [.tmp 30, .lit .nils, .lit (.int IntKind.i64 2)]), .mk (some 29) none (.p (.move (.tmp 31))), .mk (some 32) none (.p (.extract (.tmp 29) 0)), .mk (some 33) none (.p (.extract (.tmp 29) 1)), .mk (some 34) none (.p (.extract (.tmp 29) 2)), .mk (some 8) none (.a (.newc 31 [.int IntKind.i64 0, .str [], .int IntKind.i64 0])), .mk none none (.w (.store 3 (.tmp 8) (.tmp 32))), .mk (some 9) none (.p (.move (.tmp 33))), .mk (some 10) none (.p (.move (.tmp 34)))])
  (.seq (.ops [.mk (some 36) none (.p (.loadn 4 (.tmp 5))), .mk (some 37) none (.call (.lit (.func 14 [])) [.tmp 36, .lit .nils, .lit (.int IntKind.i64 1000)]), .mk (some 35) none (.p (.move (.tmp 37))), .mk (some 38) none (.p (.extract (.tmp 35) 0)), .mk (some 39) none (.p (.extract (.tmp 35) 1)), .mk (some 40) none (.p (.extract (.tmp 35) 2)), .mk (some 11) none (.a (.newc 31 [.int IntKind.i64 0, .str [], .int IntKind.i64 0])), .mk none none (.w (.store 3 (.tmp 11) (.tmp 38))), .mk (some 12) none (.p (.move (.tmp 39))), .mk (some 13) none (.p (.move (.tmp 40)))])
  (.seq (.seq (.ops [.mk (some 41) none (.p (.faddr 0 (.tmp 11))), .mk (some 42) none (.p (.load1 (.tmp 41))), .mk (some 43) none (.p (.bin .eql .none (.tmp 42) (.lit (.int IntKind.i64 6))))])
  (.cond (.tmp 43)
  (.seq (.ops [.mk (some 44) none (.p (.faddr 0 (.tmp 8))), .mk (some 45) none (.p (.load1 (.tmp 44))), .mk (some 46) none (.p (.bin .eql .none (.tmp 45) (.lit (.int IntKind.i64 1)))), .mk (some 47) none (.p (.move (.tmp 46))), .mk (some 48) (some (47, true)) (.p (.move (.tmp 9))), .mk (some 49) (some (47, true)) (.p (.bin .eql .none (.tmp 48) (.lit (.int IntKind.i64 2)))), .mk (some 50) none (.p (.pick (.tmp 47) (.tmp 49) (.lit (.bool false)))), .mk (some 51) none (.p (.move (.tmp 50))), .mk (some 52) (some (51, true)) (.p (.move (.tmp 10))), .mk (some 53) (some (51, true)) (.p (.bin .eql .none (.tmp 52) (.lit (.int IntKind.i64 0)))), .mk (some 54) none (.p (.pick (.tmp 51) (.tmp 53) (.lit (.bool false)))), .mk (some 4) none (.p (.move (.tmp 54)))])
  .ret)
  .skip))
  (.seq (.draw [.mk (some 55) none (.p (.loadn 4 (.tmp 5))), .mk (some 14) none (.a (.newc 28 [.int IntKind.i64 0, .str [], .nils, .nils]))] [(.mk (some 56) none (.call (.lit (.func 17 [])) [.lit (.str [119])]), [.mk (some 55) none (.p (.loadn 4 (.tmp 5)))], []), (.mk (some 57) none (.call (.lit (.func 17 [])) [.lit (.str [119])]), [.mk (some 55) none (.p (.loadn 4 (.tmp 5)))], []), (.mk (some 58) none (.call (.lit (.func 17 [])) [.lit (.str [119])]), [.mk (some 55) none (.p (.loadn 4 (.tmp 5)))], [.mk (some 59) none (.a (.buildS [.int IntKind.i64 0, .str [], .nils, .nils, .int IntKind.i64 0, .str [], .nils, .nils] 2 [(0, 4, .tmp 57), (4, 4, .tmp 58)])), .mk (some 60) none (.p (.build [.int IntKind.i64 0, .str [], .nils, .nils] [(0, 1, .lit (.int IntKind.i64 10)), (1, 1, .lit (.str [115, 101, 113])), (3, 1, .tmp 59)])), .mk (some 61) none (.a (.buildS [.int IntKind.i64 0, .str [], .nils, .nils, .int IntKind.i64 0, .str [], .nils, .nils] 2 [(0, 4, .tmp 56), (4, 4, .tmp 60)])), .mk (some 62) none (.p (.build [.int IntKind.i64 0, .str [], .nils, .nils] [(0, 1, .lit (.int IntKind.i64 10)), (1, 1, .lit (.str [115, 101, 113])), (3, 1, .tmp 61)]))]), (.mk (some 63) none (.call (.lit (.func 16 [])) [.lit (.str [119]), .tmp 55, .tmp 62]), [], []), (.mk none none (.w (.store 4 (.tmp 14) (.tmp 63))), [], [])])
  (.seq (.ops [.mk (some 65) none (.p (.loadn 4 (.tmp 14))), .mk (some 66) none (.call (.lit (.func 14 [])) [.tmp 65, .lit .nils, .lit (.int IntKind.i64 3000)]), .mk (some 64) none (.p (.move (.tmp 66))), .mk (some 67) none (.p (.extract (.tmp 64) 0)), .mk (some 68) none (.p (.extract (.tmp 64) 1)), .mk (some 69) none (.p (.extract (.tmp 64) 2)), .mk (some 15) none (.a (.newc 31 [.int IntKind.i64 0, .str [], .int IntKind.i64 0])), .mk none none (.w (.store 3 (.tmp 15) (.tmp 67))), .mk (some 16) none (.p (.move (.tmp 68))), .mk (some 17) none (.p (.move (.tmp 69)))])
  (.seq (.seq (.ops [.mk (some 70) none (.p (.faddr 0 (.tmp 8))), .mk (some 71) none (.p (.load1 (.tmp 70))), .mk (some 72) none (.p (.bin .neq .none (.tmp 71) (.lit (.int IntKind.i64 1)))), .mk (some 73) none (.p (.move (.tmp 72))), .mk (some 74) (some (73, false)) (.p (.faddr 1 (.tmp 8))), .mk (some 75) (some (73, false)) (.p (.load1 (.tmp 74))), .mk (some 76) (some (73, false)) (.p (.bin .neq .none (.tmp 75) (.lit (.str [49])))), .mk (some 77) none (.p (.pick (.tmp 73) (.lit (.bool true)) (.tmp 76))), .mk (some 78) none (.p (.move (.tmp 77))), .mk (some 79) (some (78, false)) (.p (.move (.tmp 9))), .mk (some 80) (some (78, false)) (.p (.bin .neq .none (.tmp 79) (.lit (.int IntKind.i64 2)))), .mk (some 81) none (.p (.pick (.tmp 78) (.lit (.bool true)) (.tmp 80))), .mk (some 82) none (.p (.move (.tmp 81))), .mk (some 83) (some (82, false)) (.p (.move (.tmp 10))), .mk (some 84) (some (82, false)) (.p (.bin .neq .none (.tmp 83) (.lit (.int IntKind.i64 0)))), .mk (some 85) none (.p (.pick (.tmp 82) (.lit (.bool true)) (.tmp 84))), .mk (some 86) none (.p (.move (.tmp 85))), .mk (some 87) (some (86, false)) (.p (.loadn 3 (.tmp 15))), .mk (some 88) (some (86, false)) (.p (.loadn 3 (.tmp 11))), .mk (some 89) (some (86, false)) (.p (.bin .neq (.many [(0, 1), (1, 2), (2, 1)]) (.tmp 87) (.tmp 88))), .mk (some 90) none (.p (.pick (.tmp 86) (.lit (.bool true)) (.tmp 89)))])
  (.cond (.tmp 90)
  (.seq (.ops [.mk (some 4) none (.p (.move (.lit (.bool false))))])
  .ret)
  .skip))
  (.seq (.ops [.mk (some 91) none (.p (.faddr 0 (.tmp 11))), .mk (some 92) none (.p (.load1 (.tmp 91))), .mk (some 93) none (.p (.bin .neq .none (.tmp 92) (.lit (.int IntKind.i64 1)))), .mk (some 94) none (.p (.move (.tmp 93))), .mk (some 95) (some (94, false)) (.p (.move (.tmp 16))), .mk (some 96) (some (94, false)) (.p (.move (.tmp 12))), .mk (some 97) (some (94, false)) (.p (.bin .add .none (.tmp 96) (.lit (.int IntKind.i64 6)))), .mk (some 98) (some (94, false)) (.p (.bin .eql .none (.tmp 95) (.tmp 97))), .mk (some 99) (some (94, false)) (.p (.move (.tmp 98))), .mk (some 100) (some (99, true)) (.p (.move (.tmp 17))), .mk (some 101) (some (99, true)) (.p (.move (.tmp 13))), .mk (some 102) (some (99, true)) (.p (.bin .add .none (.tmp 101) (.lit (.int IntKind.i64 1)))), .mk (some 103) (some (99, true)) (.p (.bin .eql .none (.tmp 100) (.tmp 102))), .mk (some 104) (some (94, false)) (.p (.pick (.tmp 99) (.tmp 103) (.lit (.bool false)))), .mk (some 105) none (.p (.pick (.tmp 94) (.lit (.bool true)) (.tmp 104))), .mk (some 4) none (.p (.move (.tmp 105)))])
  .ret))))))))))))), [.tmp 4]⟩
theorem code4 (own : OwnT) (mode : FuncId → Nat) : (slimPrg Tryd.prog own mode).code 4 = some c4 := by kernel_rfl
end Go.Lite

/-
  The law NaturalLazy.
-/
namespace Go.Lite
open Go Go.Proofs
set_option maxRecDepth 100000
set_option linter.unusedSimpArgs false
set_option linter.unusedVariables false

theorem bind_tame {t : Str} {x y : X} (hx : x.tame) (hy : y.tame) : (bindX t x y).tame := ⟨⟨⟨by simp, by simp⟩, fun h => absurd h (by decide)⟩, by simp, by simp, hx, hy, trivial⟩
theorem w_tame : (varX wT).tame := ⟨⟨⟨by decide, by decide⟩, fun h => absurd h (by decide)⟩, by simp, by simp, trivial⟩
theorem seq_tame {a b : X} (ha : a.tame) (hb : b.tame) : (seqX a b).tame := ⟨⟨⟨by decide, by decide⟩, fun h => absurd h (by decide)⟩, by simp, by simp, ha, hb, trivial⟩
theorem one_tame : oneX.tame := ⟨⟨⟨by simp, by simp⟩, fun _ => ⟨1, by decide, by rw [show (1 : Int) = ((1 : Nat) : Int) from rfl, decZ_nonneg, decN_small (by omega)]⟩⟩, by simp, by simp, trivial⟩
theorem vdot_w (j : Nat) : vdot j ≠ wT := fun e => by
  have := congrArg (fun l : Str => l[0]?) e
  simp [vdot, wT] at this

set_option maxHeartbeats 16000000 in
theorem law4 (l : List Raw) (q : Int) (hl : l.length ≤ 9223372036854775807) (hf : Raw.fits l) : Ret P6 4 [vRaws l, .int .i64 q] (.bool true) := by
  have hargs : ∀ H, mapHM shutV [vRaws l, .int .i64 q] H = some ([vRaws l, .int .i64 q], H) := fun H => by simp -implicitDefEqProofs only [↓v_lenS, ZZ, Nat.reduceBEq, reduceIte, Nat.reduceAdd, Nat.reduceLeDiff, Nat.reduceEqDiff, Nat.reduceBneDiff, XS, shutV_vRaws]
  by_cases hfew : sizeR 13 l ≤ 40
  case neg =>
    refine Ret.of rfl (code4 _ _) rfl rfl hargs (known11.and ((few11 l hl hf).up.and (Ev.ge 1)) |>.mono fun n hn H => ?_)
    obtain ⟨e11, e12, hn⟩ := hn
    rw [decide_eq_false hfew] at e12
    simp -implicitDefEqProofs only [c4, ↓v_lenS, ZZ, Nat.reduceBEq, reduceIte, Nat.reduceAdd, Nat.reduceLeDiff, Nat.reduceEqDiff, Nat.reduceBneDiff, CM, shutV_vRaws, e11, e12, Ends, gives_ret]
    exact ⟨_, rfl⟩
  obtain ⟨e, me, e13⟩ := few_term l hl hf hfew
  obtain ⟨o, ho, go⟩ := outA_total e me.wf [] 1000 (deep 3000) (by unfold deep; omega)
  obtain ⟨sn, hn1, hn2, hn3⟩ := never_out e 1
  have e1 := eval_told (bind_tame (t := neverT) me.tame one_tame) 2 2 rfl (by omega) hn1
  simp only [O.kind, O.txt, O.st, hn2, hn3] at e1
  have e2 := eval_told me.tame 1000 1000 rfl (by omega) ho
  have b1 := (bind27 neverT e oneX).up
  obtain ⟨ek, et, en, ea⟩ := e
  rw [X.v_mk] at e2
  have hx : ∀ H, shutV (.agg [.int .i64 ek, .str et, vStrs en, vXs ea]) H = some (.agg [.int .i64 ek, .str et, vStrs en, vXs ea], H) := fun H => by simp -implicitDefEqProofs only [↓v_lenS, ZZ, Nat.reduceBEq, reduceIte, Nat.reduceAdd, Nat.reduceLeDiff, Nat.reduceEqDiff, Nat.reduceBneDiff, XS]
  have hc0 : ((0 : Nat) : Int) = 0 := rfl
  have hc2 : ((2 : Nat) : Int) = 2 := rfl
  simp only [bindX, oneX, neverT, X.v_mk, vXs, vList_cons, vList_nil, List.flatMap_cons, List.flatMap_nil, List.length_cons, List.length_nil, X.cells_mk, List.cons_append, List.nil_append, List.append_nil, vStrs, vStrs_nil, str1, Nat.reduceAdd, hc0, hc2] at e1 b1
  simp only [show ∀ l : List X, vList true 4 X.cells l = vXs l from fun _ => rfl, show ∀ l : List Str, vList true 1 str1 l = vStrs l from fun _ => rfl] at e1 b1
  by_cases h6 : o.kind = 6
  · refine Ret.of rfl (code4 _ _) rfl rfl hargs (known11.and ((few11 l hl hf).up.and (e13.and (b1.and (Ev.ge 1)))) |>.mono fun n hn H => ?_)
    obtain ⟨e11, e12, e13, b1, hn⟩ := hn
    obtain ⟨n, rfl⟩ : ∃ k, n = k + 1 := ⟨n - 1, by omega⟩
    rw [decide_eq_true hfew] at e12
    rw [X.v_mk] at e13
    rw [h6] at e2
    simp -implicitDefEqProofs only [c4, ↓v_lenS, ZZ, Nat.reduceBEq, reduceIte, Nat.reduceAdd, Nat.reduceLeDiff, Nat.reduceEqDiff, Nat.reduceBneDiff, CM, XS, shutV_vRaws, e11, e12, e13, b1, call14s, hx, e1, e2, Int.reduceBEq, beq_self_eq_true, Ends, gives_ret]
    exact ⟨_, rfl⟩
  have hs := (good_kind go).2 h6
  obtain ⟨o', ho', k1, k2, k3⟩ := twice_out me.wf (me.no wT vdot_w) (Nat.le_refl _) ho h6
  have e3 := eval_told (bind_tame (t := wT) me.tame (seq_tame w_tame (seq_tame w_tame w_tame))) 3000 3000 rfl (by omega) ho'
  rw [k1, k2] at e3
  have v17 := (var25 wT).up
  have b2 := (bind27 wT (.mk ek et en ea) (seqX (varX wT) (seqX (varX wT) (varX wT)))).up
  simp only [bindX, seqX, varX, wT, seqT, X.v_mk, vXs, vList_cons, vList_nil, List.flatMap_cons, List.flatMap_nil, List.length_cons, List.length_nil, X.cells_mk, List.cons_append, List.nil_append, List.append_nil, vStrs, vStrs_nil, str1, Nat.reduceAdd] at e3 b2 v17
  simp only [show ∀ l : List X, vList true 4 X.cells l = vXs l from fun _ => rfl, show ∀ l : List Str, vList true 1 str1 l = vStrs l from fun _ => rfl] at e3 b2 v17
  have hus := out_uses ho
  have hw2 : IntKind.i64.wrap ((o.st.uses : Int) + 1) = ((o.st.uses + 1 : Nat) : Int) := by
    rw [wrap64 (by omega) (by omega)]; omega
  have hw1 : IntKind.i64.wrap ((o.st.steps : Int) + 6) = ((o.st.steps + 6 : Nat) : Int) := by
    rw [wrap64 (by omega) (by omega)]; omega
  refine Ret.of rfl (code4 _ _) rfl rfl hargs (known11.and ((few11 l hl hf).up.and (e13.and (b1.and (v17.and (b2.and (Ev.ge 1)))))) |>.mono fun n hn H => ?_)
  obtain ⟨e11, e12, e13, b1, v17, b2, hn⟩ := hn
  obtain ⟨n, rfl⟩ : ∃ k, n = k + 1 := ⟨n - 1, by omega⟩
  rw [decide_eq_true hfew] at e12
  rw [X.v_mk] at e13
  have h6b : (o.kind == 6) = false := by simpa using h6
  cases hk1 : (o.kind != 1) with
  | true =>
    simp -implicitDefEqProofs only [c4, ↓v_lenS, ZZ, Nat.reduceBEq, reduceIte, Nat.reduceAdd, Nat.reduceLeDiff, Nat.reduceEqDiff, Nat.reduceBneDiff, CM, XS, shutV_vRaws, e11, e12, e13, b1, v17, b2, call14s, hx, e1, e2, e3, h6b, hk1, shutC_sl, shutRow_row, mapHM_cons, mapHM_nil, Cap.es, Cap.full, Int.reduceBEq, Int.reduceBNe, bne_self_eq_false, beq_self_eq_true, Ends, gives_ret]

    exact ⟨_, rfl⟩
  | false =>
    have hk1' : o.kind = 1 := by simpa using hk1
    obtain ⟨k4, k5⟩ := k3 hk1'
    rw [k4, k5] at e3
    simp -implicitDefEqProofs only [c4, ↓v_lenS, ZZ, Nat.reduceBEq, reduceIte, Nat.reduceAdd, Nat.reduceLeDiff, Nat.reduceEqDiff, Nat.reduceBneDiff, CM, XS, shutV_vRaws, e11, e12, e13, b1, v17, b2, call14s, hx, e1, e2, e3, h6b, hk1, hw1, hw2, shutC_sl, shutRow_row, mapHM_cons, mapHM_nil, Cap.es, Cap.full, Int.reduceBEq, Int.reduceBNe, bne_self_eq_false, beq_self_eq_true, Ends, gives_ret]

    exact ⟨_, rfl⟩

end Go.Lite

/- The row of the law NaturalLazy, and its card: what its call does, from the interpreter's run; what it lists, tied to the program's text. -/
namespace Go.Proofs.YtmfdlglhngmacaaDoor.naturalLazy
open Go.ChangeShapes Go.WideShapes Go.ChangeAt Go.RowKit Go.Lite
open Go.ChangeMaps (open_string shut_string)
set_option linter.unusedVariables false
set_option maxRecDepth 100000
theorem own : ownKnob Tryd.prog.godebug = none := by kernel_rfl
theorem laidOut : laidOutB Tryd.prog = true := by kernel_rfl
theorem laid_met (os : Os) : laidMet Tryd.prog Rows.naturalLazyRow.laid ((laidWorld Tryd.prog os [(2, Rows.laid_math_bits_deBruijn32tab), (3, Rows.laid_math_bits_deBruijn64tab), (0, Rows.laid_internal_strconv_uint64pow10)]).forCall (fun _ _ => 0) ⟨#[], #[.slice none 0 0, .int .i64 0], []⟩).memory :=
  laidMet_of_run' 8 (by kernel_rfl) (by kernel_rfl)
theorem lifted (os : Os) (started : os.Started) (H : Type) (enc : TypeId × Value → H) :
    ReturnsInHanded {} Tryd.checked os 4 .any (fun w args => (Rows.naturalLazySpec.pre enc Tryd.prog Tryd.f4 Rows.naturalLazyRow.domain false w args ∧ laidMet Tryd.prog Rows.naturalLazyRow.laid w) ∧ sizedMet enc Tryd.prog Tryd.f4 (OpenSpec.ofChange Rows.naturalLazySpec) false w args) (Rows.naturalLazySpec.post enc Tryd.prog Tryd.f4 false true false false) := by
  refine returns_laid (C := Tryd.checked) (X := fun w _ => laidMet Tryd.prog Rows.naturalLazyRow.laid w) own started (by kernel_rfl) Tryd.func4
    (ChangeSpec.witness_at (enc := enc) (C := Tryd.checked) (os := os) (X := fun w _ => laidMet Tryd.prog Rows.naturalLazyRow.laid w) false (laidWorld Tryd.prog os [(2, Rows.laid_math_bits_deBruijn32tab), (3, Rows.laid_math_bits_deBruijn64tab), (0, Rows.laid_internal_strconv_uint64pow10)]) #[.slice none 0 0, .int .i64 0] 8 rfl (by kernel_rfl) (by kernel_rfl) (by kernel_rfl) (by kernel_rfl) (by kernel_rfl) (laid_met os)) ?_
  intro W base args ds gs before hval0 hW hcnd hsz0 hsh hlx _
  have hsz : (DataW.weightsEach Tryd.prog (Tryd.f4.params.toList ++ Rows.naturalLazySpec.plain.varTypes Tryd.prog) (ds ++ gs)).all (· ≤ reachBytes) = true := hsz0
  have hval : ∀ (j : Nat) t v, Tryd.f4.params[j]? = some t → args[j]? = some v → Value.okWide Tryd.prog W .any base t v := hval0
  have hW' := hW
  obtain ⟨p, q, hA0, hV, rfl, hfz, hnd⟩ := hW
  have hA : DataW.TrodAll enc Tryd.prog W 0 (fun _ => true) true Tryd.f4.params.toList args.toList ds p := hA0
  rw [Tryd.params4] at hA hval hsz
  obtain ⟨v0, vs0, d0, ds0, p0, q0, hargs, rfl, rfl, h0, r0⟩ := trodAll_cons hA
  obtain ⟨v1, vs1, d1, ds1, p1, q1, rfl, rfl, rfl, h1, r1⟩ := trodAll_cons r0
  obtain ⟨rfl, rfl, rfl⟩ := trodAll_nil r1
  obtain rfl : args = #[v0, v1] := by cases args; simp_all
  obtain ⟨rfl, rfl⟩ := trodVars_none hV
  have k0 := h0
  have lt0 : ∀ x ∈ p0, x.block < W.heap.size := by obtain ⟨m, hm⟩ := k0; exact DataW.trod_lt m _ _ _ hm
  have o0 := (hval 0 22 v0 rfl rfl)
  obtain ⟨z0, n0, c0, rfl⟩ := okWide_slice Tryd.underlying22 o0
  obtain ⟨g0, y0⟩ := h0
  obtain ⟨a0, ⟨w0, x0⟩, e0⟩ := open_raws Tryd.underlying22 Tryd.underlying50 (by kernel_rfl) ⟨_, rfl, rfl, Tryd.underlying3, by kernel_rfl⟩ ⟨_, rfl, rfl, Tryd.underlying3, by kernel_rfl⟩ ⟨_, rfl, rfl, rfl, by kernel_rfl⟩ g0 (.slice z0 n0 c0) _ (by simpa [Value.cells] using y0)
  obtain ⟨a1, rfl, rfl, rfl, w1⟩ := open_int Tryd.underlying3 (hval 1 3 v1 rfl rfl) h1
  refine (calls_of_ret hsh (tab_of_laid hlx) (law4 _ a1 w0 x0) (by simp only [VRels]; exact ⟨_, _, rfl, e0, _, _, rfl, rfl, rfl⟩)).mono fun e W' ⟨he, bel⟩ => ?_
  subst he
  exact ⟨_, rfl, _, _, _, [], _, [], hW', trodAll_mk1 (shut_bool Tryd.underlying4 _), (trodAll_cons_mk (Below.trod laidOut (by kernel_rfl) (of_decide_eq_true (by kernel_rfl)) k0 bel lt0) (trodAll_cons_mk (shut_int Tryd.underlying3 w1) trodAll_mk0)), rfl, bel.frame _, fun h => by cases h⟩
theorem over : Rows.naturalLazyRow.holds Tryd.pinned (OpenSpec.ofChange Rows.naturalLazySpec) :=
  OpenClaim.holds_of_wide 4 Tryd.f4 rfl rfl rfl rfl rfl rfl rfl ⟨rfl, rfl, rfl, rfl, rfl⟩ rfl rfl rfl rfl rfl (by kernel_rfl) Tryd.func4 (by kernel_rfl)
    (of_decide_eq_true (by kernel_rfl)) (by unfold Func.isWrapper; first | (rw [if_pos (by decide +kernel)]; kernel_rfl) | (rw [if_neg (by decide +kernel)]; exact ⟨rfl, rfl⟩))
    (fun os started H enc _ => lifted os started H enc)
theorem card : Rows.NaturalLazyCardSaid :=
  Claim7.holds_tied_plain_at .later [] [.data, .data, .data] true (true, "06472ccc2e734025fb51c4dbe6afee2256fcaf741367e7b75c75ff11b22c96a1") true over (fun _ h => by cases h) (by kernel_rfl) (fun _ h => by cases h) naturalLazy_row_tie rfl ⟨rfl, rfl⟩ (by kernel_rfl) (by first | rfl | decide)
    (fun f fn h1 h2 => by
      obtain rfl : f = 4 := Option.some.inj (h1.symm.trans (by kernel_rfl))
      obtain rfl : fn = Tryd.f4 := Option.some.inj (h2.symm.trans Tryd.func4)
      refine ⟨by kernel_rfl, fun j t hj => ?_⟩
      rw [Tryd.params4] at hj
      match j, hj with
      | 0, hj =>
        obtain rfl : t = 22 := by simpa using hj.symm
        exact (by kernel_rfl : Tryd.pinned.checked.prog.wantsStandIn 22 = false)
      | 1, hj =>
        obtain rfl : t = 3 := by simpa using hj.symm
        exact (by kernel_rfl : Tryd.pinned.checked.prog.wantsStandIn 3 = false)
      | j + 2, hj => simp at hj)
    (by kernel_rfl)
#print axioms card
end Go.Proofs.YtmfdlglhngmacaaDoor.naturalLazy
namespace Go.Proofs.YtmfdlglhngmacaaDoor
/-- The card, under a short name, for the claim. -/
theorem naturalLazy_holds : Rows.NaturalLazyCardSaid := naturalLazy.card
end Go.Proofs.YtmfdlglhngmacaaDoor
