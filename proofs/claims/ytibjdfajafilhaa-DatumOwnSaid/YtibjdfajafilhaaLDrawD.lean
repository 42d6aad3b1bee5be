/-
  A region whose order is open: the theorem.
-/
import Derived.Test.YtibjdfajafilhaaLDrawC
namespace Go.Lite
open Go
open Classical
set_option linter.unusedSimpArgs false
set_option linter.unusedVariables false

variable {P : Program} {nb : NB} {nt : Nat} {ops : Array Oper} {sops : List SOper} {bef : List (List Nat)} {fr0 : Fr} {ι0 : Emb} {H0 : Heap} {w0 : World} {ds : List Deferred}
  {ι : Emb} {f : Fr} {G : Heap} {a : Act} {w : World} {listed : Array Bool} {E : List Nat} {m : Nat → Fr} {ids : Nat → Nat} {obs : Nat → Obj}

theorem sameCap_eq {x y : Cap} (h : sameCap x y = true) : x = y := by
  cases x <;> cases y <;> simp_all [sameCap]

mutual
theorem same_eq : ∀ (x y : AV), same x y = true → x = y
  | .agg xs, y, h => by
    cases y <;> first | (simp [same] at h; done) | skip
    simp only [same] at h
    rw [sames_eq xs _ h]
  | .tuple xs, y, h => by
    cases y <;> first | (simp [same] at h; done) | skip
    simp only [same] at h
    rw [sames_eq xs _ h]
  | .iface t x, y, h => by
    cases y <;> first | (simp [same] at h; done) | skip
    simp only [same, Bool.and_eq_true, beq_iff_eq] at h
    rw [h.1, same_eq x _ h.2]
  | .func f xs, y, h => by
    cases y <;> first | (simp [same] at h; done) | skip
    simp only [same, Bool.and_eq_true, beq_iff_eq] at h
    rw [h.1, sames_eq xs _ h.2]
  | .undef, y, h => by cases y <;> simp_all [same]
  | .bool a, y, h => by cases y <;> simp_all [same]
  | .int k a, y, h => by cases y <;> simp_all [same]
  | .str a, y, h => by cases y <;> simp_all [same]
  | .nilp, y, h => by cases y <;> simp_all [same]
  | .ptr p o, y, h => by
    cases y <;> first | (simp [same] at h; done) | skip
    simp only [same, Bool.and_eq_true, beq_iff_eq] at h
    rw [sameBlk_eq _ _ h.1, h.2]
  | .nils, y, h => by cases y <;> simp_all [same]
  | .slice p o n c, y, h => by
    cases y <;> first | (simp [same] at h; done) | skip
    simp only [same, Bool.and_eq_true, beq_iff_eq] at h
    rw [sameBlk_eq _ _ h.1, h.2.1, h.2.2.1, sameCap_eq h.2.2.2]
  | .emp, y, h => by cases y <;> simp_all [same]
  | .nilf, y, h => by cases y <;> simp_all [same]
  | .nili, y, h => by cases y <;> simp_all [same]
  | .nilm, y, h => by cases y <;> simp_all [same]
  | .map k, y, h => by cases y <;> simp_all [same]
  | .lst e n f xs, y, h => by
    cases y <;> first | (simp [same] at h; done) | skip
    simp only [same, Bool.and_eq_true, beq_iff_eq] at h
    rw [h.1, h.2.1, h.2.2.1, sames_eq xs _ h.2.2.2]
theorem sameBlk_eq : ∀ (x y : Blk), sameBlk x y = true → x = y
  | .old p, y, h => by cases y <;> simp_all [sameBlk]
  | .new p, y, h => by cases y <;> simp_all [sameBlk]
  | .val xs, y, h => by
    cases y <;> first | (simp [sameBlk] at h; done) | skip
    simp only [sameBlk] at h
    rw [sames_eq xs _ h]
theorem sames_eq : ∀ (xs ys : List AV), sames xs ys = true → xs = ys
  | [], [], _ => rfl
  | x :: xs, y :: ys, h => by
    simp only [sames, Bool.and_eq_true] at h
    rw [same_eq x y h.1, sames_eq xs ys h.2]
  | [], _ :: _, h => by simp [sames] at h
  | _ :: _, [], h => by simp [sames] at h
end

/-- A writer is carried out. -/
theorem Inv.write (hgl : P.globals.size ≤ nb) {call : CallF} (hcall : CallsOk P nb call) (pf : PF P nt ops sops bef) (v : Inv P nb nt ops sops bef fr0 ι0 H0 w0 ds ι f G a w listed E m ids obs) {i : Nat} {o : Oper} {s : SOper}
    (ho : ops[i]? = some o) (hs : sops[i]? = some s) (hsl : slimOper P nt ops o = some s) (hi : i ∉ E) (hd : ∀ d ∈ edgesOf o, Lst listed d) {kk : Fr → Heap → R} {out : Out × Heap} (h : s.run call f G kk = some out)
    (hck : ∀ f' G', kk f' G' = some out → ∀ j ∈ E, ¬ Lst listed j → ∀ sj q, sops[j]? = some sj → sj.op = .p q → q.reads = true →
      sj.again f' G' = true ∧ ∀ t ∈ sj.looks, ∀ k sk, sops[k]? = some sk → sk.dst = some t → k ∈ bef.getD j [])
    {Q : Exit → Act → World → Prop} {K : Act → World → Prop}
    (hK : ∀ ι' f' G' a' w', Inv P nb nt ops sops bef fr0 ι0 H0 w0 ds ι' f' G' a' w' (listed.setIfInBounds i true) (i :: E) m ids obs → kk f' G' = some out → K a' w')
    (hP : ∀ (u : Value) (x : AV) (ι' : Emb) (w' : World), out.1 = .panic x → VRel nb ι' x u → Rel nb ι' out.2 w' → Ext nb ι0 H0 w0 ι' out.2 w' → Q (.panic [{ v := u, recovered := false }]) a w') : wpOp P ops Q i K a w := by
  obtain ⟨e1, e2, e3, e4⟩ := slimOper_inv hsl
  have hn : ¬ Lst listed i := fun e => hi (v.dE i e)
  have hbi : ∀ j ∈ bef.getD i [], j ∈ E := fun j hj => v.dE j (before_done pf v.closed i o ho hd j hj)
  have hbl : ∀ j ∈ bef.getD i [], Lst listed j := before_done pf v.closed i o ho hd
  have hilt : i < listed.size := by rw [v.size]; exact (Array.getElem?_eq_some_iff.1 ho).1
  have hdn : ∀ d, s.dst = some d → d < a.tmps.size := fun d e => by rw [v.tsize]; exact e2 d (by rw [← e1]; exact e)
  have hlooks : ∀ t ∈ s.looks, (f.mask s.looks) t = prior sops bef i f fr0 t := by
    intro t ht
    rw [mask_eq ht]
    unfold prior
    by_cases c : ∃ (j : Nat) (s : SOper), j ∈ bef.getD i [] ∧ sops[j]? = some s ∧ s.dst = some t
    · rw [if_pos c]
    · rw [if_neg c]
      refine v.unw t fun j hj sj hsj hdj => ?_
      have hij : i ≠ j := fun e => hi (e ▸ hj)
      rcases (pf.f3 i j s sj t hs hsj hij hdj).2 ht with h1 | h1
      · exact c ⟨j, sj, h1, hsj, hdj⟩
      · exact hi (v.eb j hj i h1)
  have hfr := v.sees pf ho hs hd hn hlooks (fun t ht => by simp [Fr.mask, ht])
  have hne : ∀ j ∈ E, j ≠ i := fun j hj e => hi (e ▸ hj)
  have hdst : ∀ (x : AV) j sj t, j ≠ i → sops[j]? = some sj → sj.dst = some t → (f.put s.dst x) t = f t := fun x j sj t hj hsj hd =>
    put_other fun e => (pf.f3 j i sj s t hsj hs hj e).1 hd
  have gen : ∀ (ι' : Emb) (u : Value) (x : AV) (G' : Heap) (w' : World), VRel nb ι' x u → Rel nb ι' G' w' → Ext nb ι G w ι' G' w' → kk (f.put s.dst x) G' = some out →
      Inv P nb nt ops sops bef fr0 ι0 H0 w0 ds ι' (f.put s.dst x) G' (a.put o.dst u) w' (listed.setIfInBounds i true) (i :: E) m ids obs := by
    intro ι' u x G' w' hu hr hext hkk
    refine ⟨by simp [v.size], fun j hj => ?_, fun j hj sj hsj hbig => ?_, fun j oj hoj hj d hdj => ?_, fun j hj k hk => ?_, ?_, by rw [put_size]; exact v.tsize, by rw [put_defers']; exact v.defers, fun t ht => ?_, hr, v.ext.trans hext, fun j hj hjl sj hsj => ?_, fun j hj k hk hjk hjl hkl => ?_⟩
    · rcases (Lst_set hilt).1 hj with rfl | hj
      · simp
      · exact List.mem_cons_of_mem _ (v.dE j hj)
    · rcases List.mem_cons.1 hj with rfl | hj
      · exact (Lst_set hilt).2 (.inl rfl)
      · exact (Lst_set hilt).2 (.inr (v.big j hj sj hsj hbig))
    · rcases (Lst_set hilt).1 hj with rfl | hj
      · rw [ho] at hoj; simp only [Option.some.injEq] at hoj; subst hoj
        exact (Lst_set hilt).2 (.inr (hd d hdj))
      · exact (Lst_set hilt).2 (.inr (v.closed j oj hoj hj d hdj))
    · rcases List.mem_cons.1 hj with rfl | hj
      · exact List.mem_cons_of_mem _ (hbi k hk)
      · exact List.mem_cons_of_mem _ (v.eb j hj k hk)
    · have hview : FRel nb ι (view sops listed (f.put s.dst x) fr0) a.tmps := by
        intro t
        have := v.frame t
        unfold view at this ⊢
        by_cases c : ∃ (i : Nat) (s : SOper), Lst listed i ∧ sops[i]? = some s ∧ s.dst = some t
        · rw [if_pos c] at this ⊢
          obtain ⟨j, sj, hj, hsj, hd⟩ := c
          rw [hdst x j sj t (hne j (v.dE j hj)) hsj hd]
          exact this
        · rw [if_neg c] at this ⊢
          exact this
      rw [← e1]
      exact view_put pf hs hilt hext.le hview hdn hu fun d e => put_same e
    · have h1 : s.dst ≠ some t := ht i (by simp) s hs
      rw [put_other h1]
      exact v.unw t fun j hj => ht j (List.mem_cons_of_mem _ hj)
    · have hji : j ≠ i := fun e => hjl ((Lst_set hilt).2 (.inl e))
      have hjl' : ¬ Lst listed j := fun e => hjl ((Lst_set hilt).2 (.inr e))
      have hjE : j ∈ E := by
        rcases List.mem_cons.1 hj with e | e
        · exact absurd e hji
        · exact e
      refine (v.pend j hjE hjl' sj hsj).move (fun k hk sk hsk t hd => hdst x k sk t (hne k (v.eb j hjE k hk)) hsk hd) (fun t hd => hdst x j sj t hji hsj hd) (fun q y hq hw hy _ hfd => ?_) hext.n (fun hk hn => hext.unborn _ hk hn) (fun hk hn _ _ => ?_)
      · cases hrd : q.reads with
        | false => rw [← POp.still (H := G) hrd]; exact hy
        | true =>
          obtain ⟨hag, hwr⟩ := hck _ _ hkk j hjE hjl' sj q hsj hq hrd
          have hmj : ∀ t ∈ sj.looks, m j t = (f.put s.dst x) t := by
            intro t ht
            rw [(v.pend j hjE hjl' sj hsj).looks t ht]
            unfold prior
            by_cases c : ∃ (k : Nat) (s : SOper), k ∈ bef.getD j [] ∧ sops[k]? = some s ∧ s.dst = some t
            · rw [if_pos c]
              obtain ⟨k, sk, hk, hsk, hd⟩ := c
              exact (hdst x k sk t (hne k (v.eb j hjE k hk)) hsk hd).symm
            · rw [if_neg c]
              have h1 : s.dst ≠ some t := fun e => c ⟨i, s, hwr t ht i s hs e, hs, e⟩
              rw [put_other h1]
              exact (v.unw t fun k hk sk hsk hd => c ⟨k, sk, hwr t ht k sk hsk hd, hsk, hd⟩).symm
          unfold SOper.again at hag
          rw [hq] at hag
          have hwf : wants (f.put s.dst x) sj.guard = some true := by
            rw [← hw]
            exact (wants_congr fun t c e => hmj t (SOper.guard_looks e)).symm
          rw [hwf] at hag
          cases hdj : sj.dst with
          | none => rw [hdj] at hag; cases hag
          | some t =>
            rw [hdj] at hag
            simp only [] at hag
            have hcq : q.val (m j) G' = q.val (f.put s.dst x) G' := POp.congr fun t ht => hmj t (SOper.op_looks (by rw [hq]; exact ht))
            cases hqv : q.val (f.put s.dst x) G' with
            | none => rw [hqv] at hag; cases hag
            | some y' =>
              rw [hqv] at hag
              simp only [] at hag
              have := same_eq _ _ hag
              rw [hcq, hqv, this, hdst x j sj t hji hsj hdj, hfd t hdj]
      · cases e : ι' (ids j) with
        | none => rfl
        | some q =>
          rcases hext.fresh _ q e with h1 | h1
          · rw [hn] at h1; cases h1
          · omega
    · have hji : j ≠ i := fun e => hjl ((Lst_set hilt).2 (.inl e))
      have hki : k ≠ i := fun e => hkl ((Lst_set hilt).2 (.inl e))
      have hjl' : ¬ Lst listed j := fun e => hjl ((Lst_set hilt).2 (.inr e))
      have hkl' : ¬ Lst listed k := fun e => hkl ((Lst_set hilt).2 (.inr e))
      have hjE : j ∈ E := by
        rcases List.mem_cons.1 hj with e | e
        · exact absurd e hji
        · exact e
      have hkE : k ∈ E := by
        rcases List.mem_cons.1 hk with e | e
        · exact absurd e hki
        · exact e
      exact v.apart j hjE k hkE hjk hjl' hkl'
  obtain ⟨b, hb, h⟩ := Option.bind_eq_some_iff.1 h
  have hwm : wants (f.mask s.looks) s.guard = some b := by
    rw [← hb]
    exact wants_congr fun t c e => mask_eq (SOper.guard_looks e)
  have hw := wanted_sound hfr v.tsize e3 hwm
  unfold wpOp
  rw [ho]
  simp only []
  cases b with
  | false =>
    simp only [cond_false] at h
    rw [if_neg (by rw [hw]; decide)]
    exact hK ι _ G _ w (gen ι undef skipped G w (by simp [skipped, VRel, VRels, undef]) v.rel Ext.refl h) h
  | true =>
    simp only [cond_true] at h
    rw [if_pos hw]
    left
    have h' : s.op.run call (f.mask s.looks) G (fun x G' => kk (f.put s.dst x) G') = some out := by
      rw [← h]
      exact SOp.congr fun t ht => mask_eq (SOper.op_looks ht)
    exact sop_step hcall hgl hfr v.rel e4 h' (fun u x ι' G' w' hu hr hext hkk => hK ι' _ G' _ w' (gen ι' u x G' w' hu hr hext hkk) hkk) (fun u x ι' w' ho' hu hr hext => hP u x ι' w' ho' hu hr (v.ext.trans hext))

/-- The interpreter takes small operations, one behind the other. -/
theorem Inv.takeAll {call : CallF} (pf : PF P nt ops sops bef) : ∀ (l : List Nat) {rest : List Nat} {ls : List SOper} {ι : Emb} {f : Fr} {G : Heap} {E : List Nat} {m : Nat → Fr} {ids : Nat → Nat} {obs : Nat → Obj} {kk : Fr → Heap → R} {out : Out × Heap},
    Inv P nb nt ops sops bef fr0 ι0 H0 w0 ds ι f G a w listed E m ids obs → extOk bef E (l ++ rest) = true → (∀ i ∈ l, ∀ s, sops[i]? = some s → s.big = false) → pickAll sops l = some ls → runOps call ls f G kk = some out →
    ∃ f' G' m' ids' obs', Inv P nb nt ops sops bef fr0 ι0 H0 w0 ds ι f' G' a w listed (l.reverse ++ E) m' ids' obs' ∧ kk f' G' = some out ∧ extOk bef (l.reverse ++ E) rest = true
  | [], rest, ls, ι, f, G, E, m, ids, obs, kk, out, v, he, _, hp, h => by
    simp only [pickAll, Option.some.injEq] at hp
    subst hp
    exact ⟨f, G, m, ids, obs, v, h, he⟩
  | i :: l, rest, ls, ι, f, G, E, m, ids, obs, kk, out, v, he, hsm, hp, h => by
    simp only [pickAll, Option.bind_eq_some_iff, Option.map_eq_some_iff] at hp
    obtain ⟨s, hs, ls', hls, rfl⟩ := hp
    simp only [List.cons_append, extOk, Bool.and_eq_true, Bool.not_eq_true', List.all_eq_true, List.contains_iff_mem] at he
    obtain ⟨⟨h1, h2⟩, h3⟩ := he
    have hi : i ∉ E := fun e => by rw [List.contains_iff_mem.2 e] at h1; cases h1
    obtain ⟨f1, G1, m1, ids1, obs1, v1, hk1⟩ := v.take pf hs (hsm i (by simp) s hs) hi h2 h
    obtain ⟨f', G', m', ids', obs', v', hk, he'⟩ := Inv.takeAll pf l v1 h3 (fun j hj => hsm j (List.mem_cons_of_mem _ hj)) hls hk1
    refine ⟨f', G', m', ids', obs', ?_, hk, ?_⟩
    · simpa using v'
    · simpa using he'

theorem phs_wait : ∀ (l : List (Nat × List Nat × List Nat)) {E done : List Nat} {x : Nat}, phsOk sops bef done (some x) l = true → x ∉ E → (∀ i ∈ l.flatMap fun q => q.1 :: q.2.2, i ∉ E) →
    ∀ i ∈ l.flatMap fun q => q.1 :: q.2.2, ∃ j ∈ bef.getD i [], j ∉ E
  | [], E, done, x, _, _, _, i, hi => by simp at hi
  | (wi, cks, sm) :: l, E, done, x, h, hx, hall, i, hi => by
    simp only [phsOk, Bool.and_eq_true, List.all_eq_true, List.contains_iff_mem] at h
    obtain ⟨⟨⟨⟨⟨h1, h2⟩, h3⟩, h4⟩, h5⟩, h6⟩ := h
    simp only [List.flatMap_cons, List.cons_append, List.mem_cons, List.mem_append] at hi
    have hw : wi ∉ E := hall wi (by simp)
    rcases hi with rfl | hi | hi
    · exact ⟨x, h2, hx⟩
    · exact ⟨wi, (h5 i hi).2, hw⟩
    · exact phs_wait l h6 hw (fun j hj => hall j (by simp only [List.flatMap_cons]; exact List.mem_append_right _ hj)) i hi

theorem extOk_not : ∀ (l : List Nat) {E : List Nat}, extOk bef E l = true → ∀ i ∈ l, i ∉ E
  | [], E, _, i, hi => by cases hi
  | j :: l, E, h, i, hi => by
    simp only [extOk, Bool.and_eq_true, Bool.not_eq_true', List.all_eq_true, List.contains_iff_mem] at h
    obtain ⟨⟨h1, h2⟩, h3⟩ := h
    rcases List.mem_cons.1 hi with rfl | hi
    · exact fun e => by rw [List.contains_iff_mem.2 e] at h1; cases h1
    · exact fun e => extOk_not l h3 i hi (List.mem_cons_of_mem _ e)

/-- All have been carried out. -/
theorem draw_finish {call : CallF} (hlen : sops.length = ops.size) {K : Fr → Heap → R} {out : Out × Heap} {Q : Exit → Act → World → Prop}
    (hQ : ∀ ι' f' G' a' w', FRel nb ι' f' a'.tmps → a'.tmps.size = nt → a'.defers = ds → Rel nb ι' G' w' → Ext nb ι0 H0 w0 ι' G' w' → K f' G' = some out → Q .normal a' w')
    {phs : List (Nat × List Nat × List Nat)} {phsS : List (SOper × List SOper × List SOper)}
    (v : Inv P nb nt ops sops bef fr0 ι0 H0 w0 ds ι f G a w listed E m ids obs) (he : extOk bef E (phs.flatMap fun q => q.1 :: q.2.2) = true) (hpk : pickPhs sops phs = some phsS)
    (hrun : runPhs call phsS f G K = some out) (hall : ∀ i, i < ops.size → Lst listed i) : Q .normal a w := by
  have hlt : ∀ i s, sops[i]? = some s → i < ops.size := fun i s h => by rw [← hlen]; exact (List.getElem?_eq_some_iff.1 h).1
  cases phs with
  | cons q l =>
    obtain ⟨wi, cks, sm⟩ := q
    simp only [pickPhs, Option.bind_eq_some_iff] at hpk
    obtain ⟨o, ho, _⟩ := hpk
    exact absurd (v.dE wi (hall wi (hlt wi o ho))) (extOk_not _ he wi (by simp))
  | nil =>
    simp only [pickPhs, Option.some.injEq] at hpk
    subst hpk
    refine hQ ι f G a w (fun t => ?_) v.tsize v.defers v.rel v.ext hrun
    have := v.frame t
    unfold view at this
    by_cases c : ∃ (i : Nat) (s : SOper), Lst listed i ∧ sops[i]? = some s ∧ s.dst = some t
    · rw [if_pos c] at this; exact this
    · rw [if_neg c] at this
      rw [v.unw t fun i hi s hs hd => c ⟨i, s, hall i (hlt i s hs), hs, hd⟩]
      exact this

/-- All the rest, in whatever order. -/
theorem draw_any (hgl : P.globals.size ≤ nb) {call : CallF} (hcall : CallsOk P nb call) (pf : PF P nt ops sops bef) (hlen : sops.length = ops.size) {K : Fr → Heap → R} {out : Out × Heap} {Q : Exit → Act → World → Prop}
    (hQ : ∀ ι' f' G' a' w', FRel nb ι' f' a'.tmps → a'.tmps.size = nt → a'.defers = ds → Rel nb ι' G' w' → Ext nb ι0 H0 w0 ι' G' w' → K f' G' = some out → Q .normal a' w')
    (hP : ∀ (u : Value) (x : AV) (ι' : Emb) (a' : Act) (w' : World), out.1 = .panic x → VRel nb ι' x u → Rel nb ι' out.2 w' → Ext nb ι0 H0 w0 ι' out.2 w' → a'.defers = ds → Q (.panic [{ v := u, recovered := false }]) a' w') :
    ∀ (fuel : Nat) {phs : List (Nat × List Nat × List Nat)} {phsS : List (SOper × List SOper × List SOper)} {last : Option Nat} {ι : Emb} {f : Fr} {G : Heap} {a : Act} {w : World} {listed : Array Bool} {E : List Nat} {m : Nat → Fr} {ids : Nat → Nat} {obs : Nat → Obj},
    Inv P nb nt ops sops bef fr0 ι0 H0 w0 ds ι f G a w listed E m ids obs → extOk bef E (phs.flatMap fun q => q.1 :: q.2.2) = true → phsOk sops bef E last phs = true → pickPhs sops phs = some phsS →
    (∀ i, i < ops.size → i ∈ E ∨ i ∈ phs.flatMap fun q => q.1 :: q.2.2) → runPhs call phsS f G K = some out → Lite.left listed ops.size ≤ fuel → wpAny P .any ops Q fuel listed a w := by
  intro fuel
  induction fuel with
  | zero =>
    intro phs phsS last ι f G a w listed E m ids obs v he hph hpk hcov hrun hl
    have hall : ∀ i, i < ops.size → Lst listed i := fun i hi => by
      have : i ∉ (List.range ops.size).filter fun i => !listed.getD i false := by
        have h0 : (List.range ops.size).filter (fun i => !listed.getD i false) = [] := List.eq_nil_of_length_eq_zero (by unfold Lite.left at hl; omega)
        rw [h0]; simp
      simp only [List.mem_filter, List.mem_range, hi, true_and, Bool.not_eq_true', Bool.not_eq_false] at this
      exact this
    refine ⟨?_, draw_finish hlen hQ v he hpk hrun hall⟩
    apply List.eq_nil_iff_forall_not_mem.2
    intro i hi
    obtain ⟨h1, o, ho, _⟩ := mem_ready.1 hi
    have hlt : i < ops.size := (Array.getElem?_eq_some_iff.1 ho).1
    have := hall i hlt
    unfold Lst at this
    have hs : i < listed.size := by rw [v.size]; exact hlt
    simp [Array.getD_eq_getD_getElem?, hs] at this h1
    rw [this] at h1; cases h1
  | succ fuel ih =>
    intro phs phsS last ι f G a w listed E m ids obs v he hph hpk hcov hrun hl
    refine ⟨fun hready => ?_, fun i hi => ?_⟩
    · refine draw_finish hlen hQ v he hpk hrun fun i => ?_
      induction i using Nat.strongRecOn with
      | _ i ihi =>
        intro hi
        by_cases hn : Lst listed i
        · exact hn
        · exfalso
          have hr : i ∈ Region.ready .any ops listed := by
            refine mem_ready.2 ⟨?_, ops[i], Array.getElem?_eq_getElem hi, fun e hem hb => ?_⟩
            · have hs : i < listed.size := by rw [v.size]; exact hi
              unfold Lst at hn
              simp [Array.getD_eq_getD_getElem?, hs] at hn ⊢
              exact hn
            · have hd : e.on ∈ edgesOf ops[i] := by
                unfold edgesOf
                exact List.mem_map.2 ⟨e, List.mem_filter.2 ⟨by simpa using hem, hb⟩, rfl⟩
              have hlt := pf.f1 i ops[i] (Array.getElem?_eq_getElem hi) _ hd
              exact ihi e.on hlt (by omega)
          rw [hready] at hr; cases hr
    · obtain ⟨h1, o, ho, hdeps⟩ := mem_ready.1 hi
      have hlt : i < ops.size := (Array.getElem?_eq_some_iff.1 ho).1
      have hn : ¬ Lst listed i := by
        have hs : i < listed.size := by rw [v.size]; exact hlt
        unfold Lst
        simp [Array.getD_eq_getD_getElem?, hs] at h1 ⊢
        exact h1
      have hd : ∀ d ∈ edgesOf o, Lst listed d := fun d hd => by
        unfold edgesOf at hd
        obtain ⟨e, hem, rfl⟩ := List.mem_map.1 hd
        obtain ⟨h2, h3⟩ := List.mem_filter.1 hem
        exact hdeps e (by simpa using h2) h3
      have hls : Lite.left (listed.setIfInBounds i true) ops.size ≤ fuel := by
        have := left_set hlt v.size hn; omega
      by_cases hE : i ∈ E
      · exact v.carry hgl pf ho hE hd hn fun ι' a' w' v' => ih v' he hph hpk hcov hrun hls
      · have hbE : ∀ j ∈ bef.getD i [], j ∈ E := fun j hj => v.dE j (before_done pf v.closed i o ho hd j hj)
        have hrem := (hcov i hlt).resolve_left hE
        cases phs with
        | nil => simp at hrem
        | cons q l =>
          obtain ⟨wi, cks, sm⟩ := q
          have hnot := extOk_not _ he
          simp only [phsOk, Bool.and_eq_true, List.all_eq_true, List.contains_iff_mem] at hph
          obtain ⟨⟨⟨⟨⟨p1, p2⟩, p3⟩, p4⟩, p5⟩, p6⟩ := hph
          have hwi : wi ∉ E := hnot wi (by simp)
          obtain rfl : i = wi := by
            simp only [List.flatMap_cons, List.cons_append, List.mem_cons, List.mem_append] at hrem
            rcases hrem with h | h | h
            · exact h
            · exact absurd (hbE wi (p5 i h).2) hwi
            · obtain ⟨j, hj, hjn⟩ := phs_wait l p6 hwi (fun j hj => hnot j (by simp only [List.flatMap_cons]; exact List.mem_append_right _ hj)) i h
              exact absurd (hbE j hj) hjn
          simp only [pickPhs, Option.bind_eq_some_iff, Option.map_eq_some_iff] at hpk
          obtain ⟨s, hs, cs, hcs, ss, hss, ls, hls', rfl⟩ := hpk
          obtain ⟨s', hs', hsl⟩ := pf.so i o ho
          obtain rfl : s' = s := by rw [hs] at hs'; simpa using hs'.symm
          simp only [runPhs] at hrun
          have hbl := before_done pf v.closed i o ho hd
          refine v.write hgl hcall pf ho hs hsl hE hd hrun (fun f' G' hk j hj hjl sj q hsj hq hqr => ?_) (fun ι' f' G' a' w' v' hk => ?_) (fun u x ι' w' h1 h2 h3 h4 => hP u x ι' a w' h1 h2 h3 h4 v.defers)
          · have hcks : cs.all (fun c => c.again f' G') = true := by
              cases hb : cs.all (fun c => c.again f' G') with
              | true => rfl
              | false => rw [hb] at hk; cases hk
            have hjb : j ∉ bef.getD i [] := fun e => hjl (hbl j e)
            have hjc : j ∈ cks := by
              have := p3 j hj
              rw [hsj] at this
              simp only [Option.any_some, Bool.or_eq_true, Bool.not_eq_true', Bool.and_eq_false_iff, Bool.not_eq_false', List.contains_iff_mem] at this
              rcases this with (h | h) | h
              · have hbig : sj.big = false := by unfold SOper.big; rw [hq]
                have hrr : sj.rereads = true := by unfold SOper.rereads; rw [hq]; exact hqr
                rcases h with h | h
                · rw [hbig] at h; cases h
                · rw [hrr] at h; cases h
              · exact absurd h hjb
              · exact h
            have hpick : ∀ (l : List Nat) (ls : List SOper), pickAll sops l = some ls → ∀ j ∈ l, ∀ sj, sops[j]? = some sj → sj ∈ ls := by
              intro l
              induction l with
              | nil => intro _ _ j hj; cases hj
              | cons k l ihl =>
                intro ls hp j hj sj hsj
                simp only [pickAll, Option.bind_eq_some_iff, Option.map_eq_some_iff] at hp
                obtain ⟨sk, hsk, ls', hls', rfl⟩ := hp
                rcases List.mem_cons.1 hj with rfl | hj
                · rw [hsk] at hsj; simp only [Option.some.injEq] at hsj; subst hsj; simp
                · exact List.mem_cons_of_mem _ (ihl ls' hls' j hj sj hsj)
            refine ⟨List.all_eq_true.1 hcks sj (hpick cks cs hcs j hjc sj hsj), fun t ht k sk hsk hkd => ?_⟩
            have h4 := p4 j hjc
            rw [hsj] at h4
            simp only [Option.any_some, Bool.and_eq_true, List.all_eq_true, List.mem_range] at h4
            have := h4.2.2 k (List.getElem?_eq_some_iff.1 hsk).1
            rw [hsk] at this
            simp only [Option.bind_some, hkd] at this
            simp only [Bool.or_eq_true, Bool.not_eq_true', List.contains_iff_mem] at this
            rcases this with h | h
            · rw [List.contains_iff_mem.2 ht] at h; cases h
            · exact h
          · have hcks : cs.all (fun c => c.again f' G') = true := by
              cases hb : cs.all (fun c => c.again f' G') with
              | true => rfl
              | false => rw [hb] at hk; cases hk
            rw [hcks] at hk
            simp only [cond_true] at hk
            have he' : extOk bef (i :: E) (sm ++ l.flatMap fun q => q.1 :: q.2.2) = true := by
              simp only [List.flatMap_cons, List.cons_append, extOk, Bool.and_eq_true] at he
              exact he.2
            obtain ⟨f2, G2, m2, ids2, obs2, v2, hk2, he2⟩ := Inv.takeAll pf sm v' he' (fun j hj sj hsj => by
              have := (p5 j hj).1
              rw [hsj] at this
              simpa using this) hss hk
            refine ih v2 he2 p6 hls' (fun j hj => ?_) hk2 hls
            rcases hcov j hj with h | h
            · exact .inl (List.mem_append_right _ (List.mem_cons_of_mem _ h))
            · simp only [List.flatMap_cons, List.cons_append, List.mem_cons, List.mem_append] at h
              rcases h with rfl | h | h
              · exact .inl (List.mem_append_right _ (by simp))
              · exact .inl (List.mem_append_left _ (List.mem_reverse.2 h))
              · exact .inr h

end Go.Lite
