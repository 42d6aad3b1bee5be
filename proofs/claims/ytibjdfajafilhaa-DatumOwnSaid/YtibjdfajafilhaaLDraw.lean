/-
  A region whose order is open: whatever order is taken, it comes to what the interpreter's one order comes to.
-/
import Derived.Test.YtibjdfajafilhaaLStep
namespace Go.Lite
open Go
open Classical
set_option linter.unusedSimpArgs false
set_option linter.unusedVariables false

/-- What is looked at ahead of it all. -/
structure PF (P : Program) (nt : Nat) (ops : Array Oper) (sops : List SOper) (bef : List (List Nat)) : Prop where
  so : ∀ (i : Nat) (o : Oper), ops[i]? = some o → ∃ s, sops[i]? = some s ∧ slimOper P nt ops o = some s
  os : ∀ (i : Nat) (s : SOper), sops[i]? = some s → ∃ o, ops[i]? = some o ∧ slimOper P nt ops o = some s
  f1 : ∀ (i : Nat) (o : Oper), ops[i]? = some o → ∀ d ∈ edgesOf o, d < i
  f2 : ∀ (i : Nat) (o : Oper), ops[i]? = some o → ∀ j ∈ bef.getD i [], ∃ d ∈ edgesOf o, d = j ∨ j ∈ bef.getD d []
  f3 : ∀ (i j : Nat) (s sj : SOper) (d : Nat), sops[i]? = some s → sops[j]? = some sj → i ≠ j → sj.dst = some d → s.dst ≠ some d ∧ (d ∈ s.looks → j ∈ bef.getD i [] ∨ i ∈ bef.getD j [])

def Lst (listed : Array Bool) (i : Nat) : Prop := listed.getD i false = true

theorem Lst_set {listed : Array Bool} {i j : Nat} (hi : i < listed.size) : Lst (listed.setIfInBounds i true) j ↔ (j = i ∨ Lst listed j) := by
  unfold Lst
  by_cases h : j = i
  · subst h; simp [Array.getD_eq_getD_getElem?, hi]
  · simp only [Array.getD_eq_getD_getElem?, Array.getElem?_setIfInBounds_ne (Ne.symm h)]
    simp [h]

theorem slimOper_inv {P : Program} {nt : Nat} {ops : Array Oper} {o : Oper} {s : SOper} (h : slimOper P nt ops o = some s) :
    s.dst = o.dst ∧ (∀ d, o.dst = some d → d < nt) ∧ slimGuard nt ops o.guard = some s.guard ∧ slimOp P nt o.op = some s.op := by
  unfold slimOper at h
  cases hd : slimDst nt o.dst with
  | false => rw [hd] at h; cases h
  | true =>
    rw [hd] at h
    simp only [cond_true, Option.bind_eq_some_iff, Option.map_eq_some_iff] at h
    obtain ⟨g, hg, q, hq, rfl⟩ := h
    refine ⟨rfl, fun d e => ?_, hg, hq⟩
    rw [e] at hd
    simpa [slimDst] using hd

section
variable {P : Program} {nb : NB} {nt : Nat} {ops : Array Oper} {sops : List SOper} {bef : List (List Nat)}

/-- what those that have been carried out have left; else what stood ahead -/
noncomputable def view (sops : List SOper) (listed : Array Bool) (f fr0 : Fr) : Fr := fun t =>
  if ∃ (i : Nat) (s : SOper), Lst listed i ∧ sops[i]? = some s ∧ s.dst = some t then f t else fr0 t

noncomputable def prior (sops : List SOper) (bef : List (List Nat)) (i : Nat) (f fr0 : Fr) : Fr := fun t =>
  if ∃ (j : Nat) (s : SOper), j ∈ bef.getD i [] ∧ sops[j]? = some s ∧ s.dst = some t then f t else fr0 t

/-- Taken by the interpreter, not yet carried out. -/
structure Pend (sops : List SOper) (bef : List (List Nat)) (fr0 : Fr) (n0 : Nat) (f : Fr) (G : Heap) (ι : Emb) (i : Nat) (s : SOper) (m : Fr) (id : Nat) (ob : Obj) : Prop where
  small : s.big = false
  looks : ∀ t ∈ s.looks, m t = prior sops bef i f fr0 t
  other : ∀ t, t ∉ s.looks → m t = .undef
  val : ∃ b v, wants m s.guard = some b ∧ (∀ d, s.dst = some d → f d = v) ∧ (b = false → v = skipped) ∧
    (b = true → (∃ q, s.op = .p q ∧ q.val m G = some v) ∨ (∃ q, s.op = .a q ∧ q.val m id = some (ob, v) ∧ ι id = none ∧ id < G.n ∧ n0 ≤ id ∧ G.t.get id = some ob))

structure Inv (P : Program) (nb : NB) (nt : Nat) (ops : Array Oper) (sops : List SOper) (bef : List (List Nat)) (fr0 : Fr) (ι0 : Emb) (H0 : Heap) (w0 : World) (ds : List Deferred)
    (ι : Emb) (f : Fr) (G : Heap) (a : Act) (w : World) (listed : Array Bool) (E : List Nat) (m : Nat → Fr) (ids : Nat → Nat) (obs : Nat → Obj) : Prop where
  size : listed.size = ops.size
  dE : ∀ i, Lst listed i → i ∈ E
  big : ∀ i ∈ E, ∀ s, sops[i]? = some s → s.big = true → Lst listed i
  closed : ∀ i o, ops[i]? = some o → Lst listed i → ∀ d ∈ edgesOf o, Lst listed d
  eb : ∀ i ∈ E, ∀ j ∈ bef.getD i [], j ∈ E
  frame : FRel nb ι (view sops listed f fr0) a.tmps
  tsize : a.tmps.size = nt
  defers : a.defers = ds
  unw : ∀ t, (∀ i ∈ E, ∀ s, sops[i]? = some s → s.dst ≠ some t) → f t = fr0 t
  rel : Rel nb ι G w
  ext : Ext nb ι0 H0 w0 ι G w
  pend : ∀ i ∈ E, ¬ Lst listed i → ∀ s, sops[i]? = some s → Pend sops bef fr0 H0.n f G ι i s (m i) (ids i) (obs i)
  apart : ∀ i ∈ E, ∀ j ∈ E, i ≠ j → ¬ Lst listed i → ¬ Lst listed j → ∀ si sj, sops[i]? = some si → sops[j]? = some sj → wants (m i) si.guard = some true → wants (m j) sj.guard = some true →
    (∃ q, si.op = .a q) → (∃ q, sj.op = .a q) → ids i ≠ ids j

theorem before_done (pf : PF P nt ops sops bef) {listed : Array Bool} (hc : ∀ i o, ops[i]? = some o → Lst listed i → ∀ d ∈ edgesOf o, Lst listed d) :
    ∀ (i : Nat) (o : Oper), ops[i]? = some o → (∀ d ∈ edgesOf o, Lst listed d) → ∀ j ∈ bef.getD i [], Lst listed j := by
  intro i
  induction i using Nat.strongRecOn with
  | _ i ih =>
    intro o ho hd j hj
    obtain ⟨d, hdm, hor⟩ := pf.f2 i o ho j hj
    have hl := hd d hdm
    rcases hor with rfl | hjd
    · exact hl
    · have hlt := pf.f1 i o ho d hdm
      have hod : ∃ od, ops[d]? = some od := by
        have : i < ops.size := (Array.getElem?_eq_some_iff.1 ho).1
        exact ⟨ops[d]'(by omega), Array.getElem?_eq_getElem _⟩
      obtain ⟨od, hod⟩ := hod
      exact ih d hlt od hod (hc d od hod hl) j hjd

/-- An operation whose turn may be now: at what it looks at, all views are one. -/
theorem view_prior (pf : PF P nt ops sops bef) {listed : Array Bool} (hc : ∀ i o, ops[i]? = some o → Lst listed i → ∀ d ∈ edgesOf o, Lst listed d) {i : Nat} {o : Oper} {s : SOper} (ho : ops[i]? = some o) (hs : sops[i]? = some s)
    (hd : ∀ d ∈ edgesOf o, Lst listed d) (hn : ¬ Lst listed i) (f fr0 : Fr) {t : Nat} (ht : t ∈ s.looks) : view sops listed f fr0 t = prior sops bef i f fr0 t := by
  have hbd := before_done pf hc
  unfold view prior
  by_cases h : ∃ (j : Nat) (s : SOper), j ∈ bef.getD i [] ∧ sops[j]? = some s ∧ s.dst = some t
  · rw [if_pos h, if_pos]
    obtain ⟨j, sj, hj, hsj, hdj⟩ := h
    exact ⟨j, sj, hbd i o ho hd j hj, hsj, hdj⟩
  · rw [if_neg h, if_neg]
    rintro ⟨j, sj, hlj, hsj, hdj⟩
    by_cases hij : i = j
    · subst hij; exact hn hlj
    · rcases (pf.f3 i j s sj t hs hsj hij hdj).2 ht with h1 | h1
      · exact h ⟨j, sj, h1, hsj, hdj⟩
      · obtain ⟨oj, hoj, _⟩ := pf.os j sj hsj
        exact hn (hbd j oj hoj (hc j oj hoj hlj) i h1)

end
end Go.Lite
