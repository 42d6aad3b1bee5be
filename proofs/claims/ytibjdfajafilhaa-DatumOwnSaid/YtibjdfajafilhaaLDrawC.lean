/-
  A region whose order is open: an operation is carried out; all of them.
-/
import Derived.Test.YtibjdfajafilhaaLDrawB
namespace Go.Lite
open Go
open Classical
set_option linter.unusedSimpArgs false
set_option linter.unusedVariables false

variable {P : Program} {nb : NB} {nt : Nat} {ops : Array Oper} {sops : List SOper} {bef : List (List Nat)} {fr0 : Fr} {ι0 : Emb} {H0 : Heap} {w0 : World} {ds : List Deferred}
  {ι : Emb} {f : Fr} {G : Heap} {a : Act} {w : World} {listed : Array Bool} {E : List Nat} {m : Nat → Fr} {ids : Nat → Nat} {obs : Nat → Obj}

theorem put_tmps_same {a : Act} {d : Nat} {v : Value} (h : d < a.tmps.size) : (a.put (some d) v).tmps.getD d undef = v := by
  simp [Act.put, Array.getD_eq_getD_getElem?, h]

theorem put_tmps_other {a : Act} {d : Option Nat} {t : Nat} {v : Value} (h : d ≠ some t) : (a.put d v).tmps.getD t undef = a.tmps.getD t undef := by
  cases d with
  | none => rfl
  | some d =>
    have : d ≠ t := fun e => h (by rw [e])
    simp [Act.put, Array.getD_eq_getD_getElem?, Array.getElem?_setIfInBounds_ne this]

theorem put_size {a : Act} {d : Option Nat} {v : Value} : (a.put d v).tmps.size = a.tmps.size := by
  cases d <;> simp [Act.put]

theorem put_defers' {a : Act} {d : Option Nat} {v : Value} : (a.put d v).defers = a.defers := by
  cases d <;> rfl

theorem view_put (pf : PF P nt ops sops bef) {i : Nat} {s : SOper} (hs : sops[i]? = some s) (hi : i < listed.size) {ι' : Emb} {v : Value} {x : AV} (hle : ι.le ι')
    (hf : FRel nb ι (view sops listed f fr0) a.tmps) (hdn : ∀ d, s.dst = some d → d < a.tmps.size) (hv : VRel nb ι' x v) (hx : ∀ d, s.dst = some d → f d = x) :
    FRel nb ι' (view sops (listed.setIfInBounds i true) f fr0) (a.put s.dst v).tmps := by
  intro t
  by_cases h : s.dst = some t
  · have e1 : view sops (listed.setIfInBounds i true) f fr0 t = x := by
      unfold view
      rw [if_pos ⟨i, s, (Lst_set hi).2 (.inl rfl), hs, h⟩]
      exact hx t h
    rw [e1, h, put_tmps_same (hdn t h)]
    exact hv
  · have e1 : view sops (listed.setIfInBounds i true) f fr0 t = view sops listed f fr0 t := by
      unfold view
      by_cases c : ∃ (i : Nat) (s : SOper), Lst listed i ∧ sops[i]? = some s ∧ s.dst = some t
      · rw [if_pos c, if_pos]
        obtain ⟨j, sj, hj, hsj, hd⟩ := c
        exact ⟨j, sj, (Lst_set hi).2 (.inr hj), hsj, hd⟩
      · rw [if_neg c, if_neg]
        rintro ⟨j, sj, hj, hsj, hd⟩
        rcases (Lst_set hi).1 hj with rfl | hj
        · rw [hs] at hsj; simp only [Option.some.injEq] at hsj; subst hsj; exact h hd
        · exact c ⟨j, sj, hj, hsj, hd⟩
    rw [e1, put_tmps_other h]
    exact (hf t).mono hle

/-- What a pending operation sees is in the temporaries. -/
theorem Inv.sees (pf : PF P nt ops sops bef) (v : Inv P nb nt ops sops bef fr0 ι0 H0 w0 ds ι f G a w listed E m ids obs) {i : Nat} {o : Oper} {s : SOper} (ho : ops[i]? = some o) (hs : sops[i]? = some s)
    (hd : ∀ d ∈ edgesOf o, Lst listed d) (hn : ¬ Lst listed i) {g : Fr} (hg : ∀ t ∈ s.looks, g t = prior sops bef i f fr0 t) (hg2 : ∀ t, t ∉ s.looks → g t = .undef) : FRel nb ι g a.tmps := by
  intro t
  by_cases ht : t ∈ s.looks
  · rw [hg t ht, ← view_prior pf v.closed ho hs hd hn f fr0 ht]
    exact v.frame t
  · rw [hg2 t ht]
    simp only [VRel]

/-- A pending operation is carried out. -/
theorem Inv.carry (hgl : P.globals.size ≤ nb) (pf : PF P nt ops sops bef) (v : Inv P nb nt ops sops bef fr0 ι0 H0 w0 ds ι f G a w listed E m ids obs) {i : Nat} {o : Oper} (ho : ops[i]? = some o) (hE : i ∈ E)
    (hd : ∀ d ∈ edgesOf o, Lst listed d) (hn : ¬ Lst listed i) {Q : Exit → Act → World → Prop} {K : Act → World → Prop}
    (hK : ∀ ι' a' w', Inv P nb nt ops sops bef fr0 ι0 H0 w0 ds ι' f G a' w' (listed.setIfInBounds i true) E m ids obs → K a' w') : wpOp P ops Q i K a w := by
  obtain ⟨s, hs, hsl⟩ := pf.so i o ho
  obtain ⟨e1, e2, e3, e4⟩ := slimOper_inv hsl
  have hp := v.pend i hE hn s hs
  obtain ⟨b, x, hb, hx, hfalse, htrue⟩ := hp.val
  have hfr := v.sees pf ho hs hd hn hp.looks hp.other
  have hw := wanted_sound hfr v.tsize e3 hb
  have hilt : i < listed.size := by rw [v.size]; exact (Array.getElem?_eq_some_iff.1 ho).1
  have hdn : ∀ d, s.dst = some d → d < a.tmps.size := fun d e => by rw [v.tsize]; exact e2 d (by rw [← e1]; exact e)
  -- the new state
  have gen : ∀ (ι' : Emb) (u : Value) (w' : World), ι.le ι' → VRel nb ι' x u → Rel nb ι' G w' → Ext nb ι0 H0 w0 ι' G w' →
      (∀ j ∈ E, j ≠ i → ¬ Lst listed j → ∀ sj, sops[j]? = some sj → (∃ q, sj.op = .a q) → wants (m j) sj.guard = some true → ι (ids j) = none → ι' (ids j) = none) →
      Inv P nb nt ops sops bef fr0 ι0 H0 w0 ds ι' f G (a.put o.dst u) w' (listed.setIfInBounds i true) E m ids obs := by
    intro ι' u w' hle hu hr hext hids
    refine ⟨by simp [v.size], fun j hj => ?_, fun j hj sj hsj hbig => (Lst_set hilt).2 (.inr (v.big j hj sj hsj hbig)), fun j oj hoj hj d hdj => ?_, v.eb, ?_, by rw [put_size]; exact v.tsize, by rw [put_defers']; exact v.defers, v.unw, hr, hext, fun j hj hjl sj hsj => ?_, fun j hj k hk hjk hjl hkl => ?_⟩
    · rcases (Lst_set hilt).1 hj with rfl | hj
      · exact hE
      · exact v.dE j hj
    · rcases (Lst_set hilt).1 hj with rfl | hj
      · rw [ho] at hoj; simp only [Option.some.injEq] at hoj; subst hoj
        exact (Lst_set hilt).2 (.inr (hd d hdj))
      · exact (Lst_set hilt).2 (.inr (v.closed j oj hoj hj d hdj))
    · rw [← e1]
      exact view_put pf hs hilt hle v.frame hdn hu hx
    · have hji : j ≠ i := fun e => hjl ((Lst_set hilt).2 (.inl e))
      have hjl' : ¬ Lst listed j := fun e => hjl ((Lst_set hilt).2 (.inr e))
      exact (v.pend j hj hjl' sj hsj).move (fun _ _ _ _ _ _ => rfl) (fun _ _ => rfl) (fun _ _ _ _ h _ _ => h) (Nat.le_refl _) (fun _ _ => rfl) (fun _ h hq hw => hids j hj hji hjl' sj hsj hq hw h)
    · have hjl' : ¬ Lst listed j := fun e => hjl ((Lst_set hilt).2 (.inr e))
      have hkl' : ¬ Lst listed k := fun e => hkl ((Lst_set hilt).2 (.inr e))
      exact v.apart j hj k hk hjk hjl' hkl'
  unfold wpOp
  rw [ho]
  simp only []
  cases b with
  | false =>
    rw [if_neg (by rw [hw]; decide)]
    refine hK ι _ w (gen ι undef w (Emb.le_refl ι) ?_ v.rel v.ext fun _ _ _ _ _ _ _ _ h => h)
    rw [hfalse rfl]
    simp [skipped, VRel, VRels, undef]
  | true =>
    rw [if_pos hw]
    left
    unfold Oper.wp
    rcases htrue rfl with ⟨q, hq, hqv⟩ | ⟨q, hq, hqv, h1, h2, h3, h4⟩
    · have hsp : slimP P nt o.op = some q := by
        rw [hq] at e4
        unfold slimOp at e4
        split at e4
        · rename_i po hpo
          simp only [Option.some.injEq, SOp.p.injEq] at e4
          rw [← e4]; exact hpo
        · split at e4
          · simp at e4
          · split at e4
            · simp at e4
            · split at e4
              · simp only [Option.bind_eq_some_iff, Option.map_eq_some_iff] at e4
                obtain ⟨_, _, _, _, h⟩ := e4
                cases h
              · simp only [Option.map_eq_some_iff] at e4
                obtain ⟨_, _, h⟩ := e4
                cases h
              · cases e4
      obtain ⟨u, w', hrun, hh, hu⟩ := pop_sound hgl hfr v.rel hsp hqv
      rw [hrun, Oper.upon_value]
      exact hK ι _ w' (gen ι u w' (Emb.le_refl ι) hu (v.rel.same hh.heap) (v.ext.sameHeap hh) fun _ _ _ _ _ _ _ _ h => h)
    · have hsa : slimA P nt o.op = some q := by
        rw [hq] at e4
        unfold slimOp at e4
        split at e4
        · simp at e4
        · split at e4
          · rename_i ao hao
            simp only [Option.some.injEq, SOp.a.injEq] at e4
            rw [← e4]; exact hao
          · split at e4
            · simp at e4
            · split at e4
              · simp only [Option.bind_eq_some_iff, Option.map_eq_some_iff] at e4
                obtain ⟨_, _, _, _, h⟩ := e4
                cases h
              · simp only [Option.map_eq_some_iff] at e4
                obtain ⟨_, _, h⟩ := e4
                cases h
              · cases e4
      obtain ⟨u, w', ob, l, hrun, hh, hl, hb', hu⟩ := aop_sound (w := w) hgl hfr hsa hqv
      rw [hrun, Oper.upon_value]
      obtain ⟨q1, q2, q3⟩ := (v.rel.born h1 h4 hh.heap hl hb').added h4
      refine hK (ι.add (ids i) l _ w') _ w' (gen _ u w' (Emb.le_add h1) (hu _ Emb.add_same (Emb.le_add h1) q3) q1 ((v.ext.bornLate h1 h3 hh hl).trans q2) fun j hj hji hjl sj hsj hjq hjw hjn => ?_)
      have := v.apart i hE j hj (Ne.symm hji) hn hjl s sj hs hsj hb hjw ⟨q, hq⟩ hjq
      rw [Emb.add_at]
      rw [if_neg (Ne.symm this)]
      exact hjn

/-- how many are still to come -/
def left (listed : Array Bool) (n : Nat) : Nat := ((List.range n).filter fun i => !listed.getD i false).length

theorem left_set {listed : Array Bool} {n i : Nat} (hi : i < n) (hs : listed.size = n) (hn : ¬ Lst listed i) : left (listed.setIfInBounds i true) n + 1 = left listed n := by
  unfold left
  have key : ∀ (l : List Nat), l.Nodup → i ∈ l → ((l.filter fun j => !(listed.setIfInBounds i true).getD j false).length) + 1 = (l.filter fun j => !listed.getD j false).length := by
    intro l
    induction l with
    | nil => intro _ h; cases h
    | cons j l ih =>
      intro hnd hm
      rw [List.nodup_cons] at hnd
      by_cases hj : j = i
      · subst hj
        have e1 : (listed.setIfInBounds j true).getD j false = true := (Lst_set (by omega)).2 (.inl rfl)
        have e2 : listed.getD j false = false := by
          unfold Lst at hn; simpa using hn
        have e3 : (l.filter fun k => !(listed.setIfInBounds j true).getD k false) = l.filter fun k => !listed.getD k false := by
          apply List.filter_congr
          intro k hk
          have hkj : j ≠ k := fun e => hnd.1 (e ▸ hk)
          simp [Array.getD_eq_getD_getElem?, Array.getElem?_setIfInBounds_ne hkj]
        simp only [List.filter_cons, e1, e2, Bool.not_true, Bool.not_false, if_true, Bool.false_eq_true, if_false, List.length_cons, e3]
      · have e1 : (listed.setIfInBounds i true).getD j false = listed.getD j false := by
          simp [Array.getD_eq_getD_getElem?, Array.getElem?_setIfInBounds_ne (Ne.symm hj)]
        have hm' : i ∈ l := by
          rcases List.mem_cons.1 hm with e | e
          · exact absurd e.symm hj
          · exact e
        have := ih hnd.2 hm'
        simp only [List.filter_cons, e1]
        split
        · simp only [List.length_cons]; omega
        · exact this
  exact key _ List.nodup_range (List.mem_range.2 hi)

end Go.Lite
