/-
  A region whose order is open: the interpreter goes on; an operation is carried out.
-/
import Derived.Test.YtibjdfajafilhaaLDraw
namespace Go.Lite
open Go
open Classical
set_option linter.unusedSimpArgs false
set_option linter.unusedVariables false

variable {P : Program} {nb : NB} {nt : Nat} {ops : Array Oper} {sops : List SOper} {bef : List (List Nat)} {fr0 : Fr} {ι0 : Emb} {H0 : Heap} {w0 : World} {ds : List Deferred}
  {ι : Emb} {f : Fr} {G : Heap} {a : Act} {w : World} {listed : Array Bool} {E : List Nat} {m : Nat → Fr} {ids : Nat → Nat} {obs : Nat → Obj}

theorem Ext.pushed (h : Ext nb ι0 H0 w0 ι G w) (o : Obj) : Ext nb ι0 H0 w0 ι (G.push o) w where
  le := h.le
  size := h.size
  kept := h.kept
  rng := h.rng
  fresh := h.fresh
  n := by have := h.n; simp only [Heap.push]; omega
  unborn k hk e := by
    have := h.n
    simp only [Heap.push, T.get_set]
    rw [if_neg (by omega)]
    exact h.unborn k hk e
  base := h.base
  env := h.env
  frz := h.frz

theorem Ext.bornLate {w' : World} {k : Nat} {ob : Go.Obj} {l : Loc} (h : Ext nb ι0 H0 w0 ι G w) (hk : ι k = none) (hn : H0.n ≤ k) (ht : Turned w w' (w.heap.push ob)) (hl : l.blk = w.heap.size) :
    Ext nb ι0 H0 w0 (ι.put k l) G w' where
  le := Emb.le_trans h.le (Emb.le_put hk)
  size := by have := h.size; rw [ht.heap]; simp; omega
  kept b hb hc := by rw [heap_push_lt ht.heap (by have := h.size; omega)]; exact h.kept b hb hc
  rng j q hj hq := by
    simp only [Emb.put_at] at hj
    by_cases hjk : j = k
    · rw [if_pos hjk] at hj
      simp only [Option.some.injEq] at hj
      subst hj
      have := h.size
      omega
    · rw [if_neg hjk] at hj
      exact h.rng j q hj hq
  fresh j q hj := by
    simp only [Emb.put_at] at hj
    by_cases hjk : j = k
    · right; omega
    · rw [if_neg hjk] at hj; exact h.fresh j q hj
  n := h.n
  unborn := h.unborn
  base := h.base
  env := ⟨ht.env.1.trans h.env.1, ht.env.2.1.trans h.env.2.1, ht.env.2.2.trans h.env.2.2⟩
  frz := h.frz

theorem Ext.sameHeap {w' : World} (h : Ext nb ι0 H0 w0 ι G w) (ht : Turned w w' w.heap) : Ext nb ι0 H0 w0 ι G w' where
  le := h.le
  size := by rw [ht.heap]; exact h.size
  kept b hb hc := by rw [ht.heap]; exact h.kept b hb hc
  rng := h.rng
  fresh := h.fresh
  n := h.n
  unborn := h.unborn
  base := h.base
  env := ⟨ht.env.1.trans h.env.1, ht.env.2.1.trans h.env.2.1, ht.env.2.2.trans h.env.2.2⟩
  frz := h.frz

theorem put_other {f : Fr} {d : Option Nat} {t : Nat} {v : AV} (h : d ≠ some t) : (f.put d v) t = f t := by
  cases d with
  | none => rfl
  | some d =>
    simp only [Fr.put, Fr.set]
    have : Nat.beq t d = false := by
      cases hb : Nat.beq t d with
      | false => rfl
      | true => exact absurd (by rw [Nat.eq_of_beq_eq_true hb]) h
    rw [this]; rfl

theorem put_same {f : Fr} {d : Option Nat} {t : Nat} {v : AV} (h : d = some t) : (f.put d v) t = v := by
  subst h
  simp [Fr.put, Fr.set]

/-- Another frame and heap, of which a pending operation sees the same. -/
theorem Pend.move {f' : Fr} {G' : Heap} {n0 i : Nat} {s : SOper} {mi : Fr} {id : Nat} {ob : Obj} (h : Pend sops bef fr0 n0 f G ι i s mi id ob) (hb : ∀ j ∈ bef.getD i [], ∀ sj, sops[j]? = some sj → ∀ t, sj.dst = some t → f' t = f t)
    (hd : ∀ t, s.dst = some t → f' t = f t) (hv : ∀ q v, s.op = .p q → wants mi s.guard = some true → q.val mi G = some v → f' = f' → (∀ d, s.dst = some d → f d = v) → q.val mi G' = some v) (hn : G.n ≤ G'.n)
    (hg : id < G.n → ι id = none → G'.t.get id = G.t.get id) {ι' : Emb} (hι : id < G.n → ι id = none → (∃ q, s.op = .a q) → wants mi s.guard = some true → ι' id = none) : Pend sops bef fr0 n0 f' G' ι' i s mi id ob where
  small := h.small
  looks t ht := by
    rw [h.looks t ht]
    unfold prior
    by_cases c : ∃ (j : Nat) (s : SOper), j ∈ bef.getD i [] ∧ sops[j]? = some s ∧ s.dst = some t
    · rw [if_pos c, if_pos c]
      obtain ⟨j, sj, hj, hsj, hdj⟩ := c
      exact (hb j hj sj hsj t hdj).symm
    · rw [if_neg c, if_neg c]
  other := h.other
  val := by
    obtain ⟨b, v, h1, h2, h3, h4⟩ := h.val
    refine ⟨b, v, h1, fun d e => by rw [hd d e]; exact h2 d e, h3, fun e => ?_⟩
    subst e
    rcases h4 rfl with ⟨q, hq, hqv⟩ | ⟨q, hq, hqv, g1, g2, g3, g4⟩
    · exact .inl ⟨q, hq, hv q v hq h1 hqv rfl h2⟩
    · exact .inr ⟨q, hq, hqv, hι g2 g1 ⟨q, hq⟩ h1, by omega, g3, by rw [hg g2 g1]; exact g4⟩

theorem updN {α : Type} (m : Nat → α) (i : Nat) (x : α) : ∃ m' : Nat → α, m' i = x ∧ ∀ j, j ≠ i → m' j = m j :=
  ⟨fun j => if j = i then x else m j, by simp, fun j hj => by simp [hj]⟩

/-- The interpreter takes one small operation. -/
theorem Inv.take (pf : PF P nt ops sops bef) (v : Inv P nb nt ops sops bef fr0 ι0 H0 w0 ds ι f G a w listed E m ids obs) {i : Nat} {s : SOper} (hs : sops[i]? = some s) (hsm : s.big = false) (hi : i ∉ E) (hbi : ∀ j ∈ bef.getD i [], j ∈ E)
    {call : CallF} {kk : Fr → Heap → R} {out : Out × Heap} (h : s.run call f G kk = some out) :
    ∃ f' G' m' ids' obs', Inv P nb nt ops sops bef fr0 ι0 H0 w0 ds ι f' G' a w listed (i :: E) m' ids' obs' ∧ kk f' G' = some out := by
  -- what the operation yields, where it stands
  obtain ⟨b, hb, h⟩ := Option.bind_eq_some_iff.1 h
  have hlooksf : ∀ t ∈ s.looks, (f.mask s.looks) t = prior sops bef i f fr0 t := by
    intro t ht
    rw [mask_eq ht]
    unfold prior
    by_cases c : ∃ (j : Nat) (s : SOper), j ∈ bef.getD i [] ∧ sops[j]? = some s ∧ s.dst = some t
    · rw [if_pos c]
    · rw [if_neg c]
      refine v.unw t fun j hj sj hsj hdj => ?_
      have hij : i ≠ j := fun e => hi (e ▸ hj)
      rcases (pf.f3 i j s sj t hs hsj hij hdj).2 ht with h1 | h1
      · exact c ⟨j, sj, h1, hsj, hdj⟩
      · exact hi (v.eb j hj i h1)
  have hwm : wants (f.mask s.looks) s.guard = some b := by
    rw [← hb]
    exact wants_congr fun t c e => mask_eq (SOper.guard_looks e)
  have hopc : ∀ t ∈ s.op.tmps, (f.mask s.looks) t = f t := fun t ht => mask_eq (SOper.op_looks ht)
  have hnl : ¬ Lst listed i := fun e => hi (v.dE i e)
  have hGn : ι G.n = none := by
    cases e : ι G.n with
    | none => rfl
    | some q => have := (v.rel.dom _ _ e).2.2; omega
  -- the general step
  have gen : ∀ (x : AV) (G' : Heap) (id : Nat) (ob : Obj), (G' = G ∨ ∃ o, G' = G.push o) → ((b = false → x = skipped) ∧
      (b = true → (∃ q, s.op = .p q ∧ q.val (f.mask s.looks) G' = some x) ∨ (∃ q, s.op = .a q ∧ q.val (f.mask s.looks) id = some (ob, x) ∧ id = G.n ∧ G' = G.push ob))) →
      ∃ m' ids' obs', Inv P nb nt ops sops bef fr0 ι0 H0 w0 ds ι (f.put s.dst x) G' a w listed (i :: E) m' ids' obs' := by
    intro x G' id ob hG hval
    obtain ⟨m', hm1, hm2⟩ := updN m i (f.mask s.looks)
    obtain ⟨ids', hi1, hi2⟩ := updN ids i id
    obtain ⟨obs', ho1, ho2⟩ := updN obs i ob
    have hGle : G.n ≤ G'.n := by rcases hG with rfl | ⟨o, rfl⟩ <;> simp [Heap.push]
    have hGget : ∀ k, k < G.n → G'.t.get k = G.t.get k := fun k hk => by
      rcases hG with rfl | ⟨o, rfl⟩
      · rfl
      · simp only [Heap.push, T.get_set]; rw [if_neg (by omega)]
    have hGval : ∀ (q : POp) (g : Fr) (y : AV), q.val g G = some y → q.val g G' = some y := fun q g y hq => by
      rcases hG with rfl | ⟨o, rfl⟩
      · exact hq
      · exact POp.push v.rel.lt hq
    have hne : ∀ j ∈ E, j ≠ i := fun j hj e => hi (e ▸ hj)
    have hdst : ∀ j sj t, j ≠ i → sops[j]? = some sj → sj.dst = some t → (f.put s.dst x) t = f t := fun j sj t hj hsj hd =>
      put_other fun e => (pf.f3 j i sj s t hsj hs hj e).1 hd
    refine ⟨m', ids', obs', ⟨v.size, fun j hj => List.mem_cons_of_mem _ (v.dE j hj), fun j hj sj hsj hbig => ?_, v.closed, fun j hj k hk => ?_, ?_, v.tsize, v.defers, fun t ht => ?_, ?_, ?_, fun j hj hjl sj hsj => ?_, fun j hj k hk hjk hjl hkl sj sk hsj hsk hwj hwk hqj hqk => ?_⟩⟩
    · rcases List.mem_cons.1 hj with rfl | hj
      · rw [hs] at hsj; simp only [Option.some.injEq] at hsj; subst hsj; rw [hsm] at hbig; cases hbig
      · exact v.big j hj sj hsj hbig
    · rcases List.mem_cons.1 hj with rfl | hj
      · exact List.mem_cons_of_mem _ (hbi k hk)
      · exact List.mem_cons_of_mem _ (v.eb j hj k hk)
    · intro t
      have := v.frame t
      unfold view at this ⊢
      by_cases c : ∃ (i : Nat) (s : SOper), Lst listed i ∧ sops[i]? = some s ∧ s.dst = some t
      · rw [if_pos c] at this ⊢
        obtain ⟨j, sj, hj, hsj, hd⟩ := c
        rw [hdst j sj t (hne j (v.dE j hj)) hsj hd]
        exact this
      · rw [if_neg c] at this ⊢
        exact this
    · have h1 : s.dst ≠ some t := ht i (by simp) s hs
      rw [put_other h1]
      exact v.unw t fun j hj => ht j (List.mem_cons_of_mem _ hj)
    · rcases hG with rfl | ⟨o, rfl⟩
      · exact v.rel
      · exact v.rel.push o
    · rcases hG with rfl | ⟨o, rfl⟩
      · exact v.ext
      · exact v.ext.pushed o
    · rcases List.mem_cons.1 hj with rfl | hj
      · rw [hs] at hsj; simp only [Option.some.injEq] at hsj; subst hsj
        rw [hm1, hi1, ho1]
        refine ⟨hsm, fun t ht => ?_, fun t ht => by simp [Fr.mask, ht], b, x, hwm, fun d hd => put_same hd, hval.1, fun e => ?_⟩
        · rw [hlooksf t ht]
          unfold prior
          by_cases c : ∃ (j' : Nat) (s : SOper), j' ∈ bef.getD j [] ∧ sops[j']? = some s ∧ s.dst = some t
          · rw [if_pos c, if_pos c]
            obtain ⟨k, sk, hk, hsk, hd⟩ := c
            exact (hdst k sk t (hne k (hbi k hk)) hsk hd).symm
          · rw [if_neg c, if_neg c]
        · rcases hval.2 e with h1 | ⟨q, hq, hqv, rfl, rfl⟩
          · exact .inl h1
          · have := v.ext.n
            exact .inr ⟨q, hq, hqv, hGn, by simp [Heap.push], this, by simp [Heap.push, T.get_set]⟩
      · rw [hm2 j (hne j hj), hi2 j (hne j hj), ho2 j (hne j hj)]
        refine (v.pend j hj hjl sj hsj).move (fun k hk sk hsk t hd => hdst k sk t (hne k (v.eb j hj k hk)) hsk hd) (fun t hd => hdst j sj t (hne j hj) hsj hd) (fun q y _ _ hq _ _ => hGval q _ y hq) hGle (fun hk _ => hGget _ hk) (fun _ h _ _ => h)
    · rcases List.mem_cons.1 hj with rfl | hj2
      · rcases List.mem_cons.1 hk with rfl | hk2
        · exact absurd rfl hjk
        · rw [hi1, hi2 k (hne k hk2)]
          rw [hm2 k (hne k hk2)] at hwk
          rw [hs] at hsj; simp only [Option.some.injEq] at hsj; subst hsj
          rw [hm1, hwm] at hwj
          simp only [Option.some.injEq] at hwj
          obtain ⟨q, hq⟩ := hqj
          rcases hval.2 hwj with ⟨q', hq', _⟩ | ⟨q', _, _, rfl, _⟩
          · rw [hq] at hq'; cases hq'
          · obtain ⟨bb, y, g1, _, _, g4⟩ := (v.pend k hk2 hkl sk hsk).val
            rw [hwk] at g1
            simp only [Option.some.injEq] at g1
            obtain ⟨q2, hq2⟩ := hqk
            rcases g4 g1.symm with ⟨q3, hq3, _⟩ | ⟨q3, _, _, _, hlt, _⟩
            · rw [hq2] at hq3; cases hq3
            · omega
      · rcases List.mem_cons.1 hk with rfl | hk2
        · rw [hi1, hi2 j (hne j hj2)]
          rw [hm2 j (hne j hj2)] at hwj
          rw [hs] at hsk; simp only [Option.some.injEq] at hsk; subst hsk
          rw [hm1, hwm] at hwk
          simp only [Option.some.injEq] at hwk
          obtain ⟨q, hq⟩ := hqk
          rcases hval.2 hwk with ⟨q', hq', _⟩ | ⟨q', _, _, rfl, _⟩
          · rw [hq] at hq'; cases hq'
          · obtain ⟨bb, y, g1, _, _, g4⟩ := (v.pend j hj2 hjl sj hsj).val
            rw [hwj] at g1
            simp only [Option.some.injEq] at g1
            obtain ⟨q2, hq2⟩ := hqj
            rcases g4 g1.symm with ⟨q3, hq3, _⟩ | ⟨q3, _, _, _, hlt, _⟩
            · rw [hq2] at hq3; cases hq3
            · omega
        · rw [hi2 j (hne j hj2), hi2 k (hne k hk2)]
          rw [hm2 j (hne j hj2)] at hwj
          rw [hm2 k (hne k hk2)] at hwk
          exact v.apart j hj2 k hk2 hjk hjl hkl sj sk hsj hsk hwj hwk hqj hqk
  cases b with
  | false =>
    simp only [cond_false] at h
    obtain ⟨m', ids', obs', hv⟩ := gen skipped G 0 (.iter [] 0) (.inl rfl) ⟨fun _ => rfl, fun e => by cases e⟩
    exact ⟨_, _, m', ids', obs', hv, h⟩
  | true =>
    simp only [cond_true] at h
    unfold SOper.big at hsm
    cases hop : s.op with
    | p q =>
      rw [hop] at h
      simp only [SOp.run, Option.bind_eq_some_iff] at h
      obtain ⟨x, hx, hk⟩ := h
      have hx' : q.val (f.mask s.looks) G = some x := by
        rw [← hx]
        exact POp.congr fun t ht => hopc t (by rw [hop]; exact ht)
      obtain ⟨m', ids', obs', hv⟩ := gen x G 0 (.iter [] 0) (.inl rfl) ⟨fun e => (by cases e), fun _ => .inl ⟨q, hop, hx'⟩⟩
      exact ⟨_, _, m', ids', obs', hv, hk⟩
    | a q =>
      rw [hop] at h
      simp only [SOp.run, Option.bind_eq_some_iff] at h
      obtain ⟨⟨ob, x⟩, hx, hk⟩ := h
      have hx' : q.val (f.mask s.looks) G.n = some (ob, x) := by
        rw [← hx]
        exact AOp.congr fun t ht => hopc t (by rw [hop]; exact ht)
      obtain ⟨m', ids', obs', hv⟩ := gen x (G.push ob) G.n ob (.inr ⟨ob, rfl⟩) ⟨fun e => (by cases e), fun _ => .inr ⟨q, hop, hx', rfl, rfl⟩⟩
      exact ⟨_, _, m', ids', obs', hv, hk⟩
    | w q => rw [hop] at hsm; cases hsm
    | call g as => rw [hop] at hsm; cases hsm
    | panic y => rw [hop] at hsm; cases hsm

end Go.Lite
