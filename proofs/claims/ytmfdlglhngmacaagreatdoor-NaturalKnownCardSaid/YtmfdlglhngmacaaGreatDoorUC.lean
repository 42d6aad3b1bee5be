/-
  Several texts in one: LDrawD, LDrawE, LShut, LCode, LRow.
-/
import Derived.Test.YtmfdlglhngmacaaGreatDoorUB
import Derived.HandedShaped
import Derived.Below

set_option linter.unusedSimpArgs false
set_option linter.unusedVariables false
set_option linter.defProp false
set_option maxRecDepth 100000

/-
  A region whose order is open: the theorem.
-/
namespace Go.Lite
open Go
open Classical
variable {P : Program} {nb : NB} {nt : Nat} {ops : Array Oper} {sops : List SOper} {bef : List (List Nat)} {fr0 : Fr} {ι0 : Emb} {H0 : Heap} {w0 : World} {ds : List Deferred}
  {ι : Emb} {f : Fr} {G : Heap} {a : Act} {w : World} {listed : Array Bool} {E : List Nat} {m : Nat → Fr} {ids : Nat → Nat} {obs : Nat → Obj}
theorem sameCap_eq {x y : Cap} (h : sameCap x y = true) : x = y := by
  cases x <;> cases y <;> simp_all [sameCap]
mutual
theorem same_eq : ∀ (x y : AV), same x y = true → x = y
  | .agg xs, y, h => by
    cases y <;> first | (simp [same] at h; done) | skip
    simp only [same] at h
    rw [sames_eq xs _ h]
  | .tuple xs, y, h => by
    cases y <;> first | (simp [same] at h; done) | skip
    simp only [same] at h
    rw [sames_eq xs _ h]
  | .iface t x, y, h => by
    cases y <;> first | (simp [same] at h; done) | skip
    simp only [same, Bool.and_eq_true, beq_iff_eq] at h
    rw [h.1, same_eq x _ h.2]
  | .func f xs, y, h => by
    cases y <;> first | (simp [same] at h; done) | skip
    simp only [same, Bool.and_eq_true, beq_iff_eq] at h
    rw [h.1, sames_eq xs _ h.2]
  | .undef, y, h => by cases y <;> simp_all [same]
  | .bool a, y, h => by cases y <;> simp_all [same]
  | .int k a, y, h => by cases y <;> simp_all [same]
  | .str a, y, h => by cases y <;> simp_all [same]
  | .nilp, y, h => by cases y <;> simp_all [same]
  | .ptr p o, y, h => by
    cases y <;> first | (simp [same] at h; done) | skip
    simp only [same, Bool.and_eq_true, beq_iff_eq] at h
    rw [sameBlk_eq _ _ h.1, h.2]
  | .nils, y, h => by cases y <;> simp_all [same]
  | .slice p o n c, y, h => by
    cases y <;> first | (simp [same] at h; done) | skip
    simp only [same, Bool.and_eq_true, beq_iff_eq] at h
    rw [sameBlk_eq _ _ h.1, h.2.1, h.2.2.1, sameCap_eq h.2.2.2]
  | .emp, y, h => by cases y <;> simp_all [same]
  | .nilf, y, h => by cases y <;> simp_all [same]
  | .nili, y, h => by cases y <;> simp_all [same]
  | .nilm, y, h => by cases y <;> simp_all [same]
  | .map k, y, h => by cases y <;> simp_all [same]
  | .lst e n f xs, y, h => by
    cases y <;> first | (simp [same] at h; done) | skip
    simp only [same, Bool.and_eq_true, beq_iff_eq] at h
    rw [h.1, h.2.1, h.2.2.1, sames_eq xs _ h.2.2.2]
theorem sameBlk_eq : ∀ (x y : Blk), sameBlk x y = true → x = y
  | .old p, y, h => by cases y <;> simp_all [sameBlk]
  | .new p, y, h => by cases y <;> simp_all [sameBlk]
  | .val xs, y, h => by
    cases y <;> first | (simp [sameBlk] at h; done) | skip
    simp only [sameBlk] at h
    rw [sames_eq xs _ h]
theorem sames_eq : ∀ (xs ys : List AV), sames xs ys = true → xs = ys
  | [], [], _ => rfl
  | x :: xs, y :: ys, h => by
    simp only [sames, Bool.and_eq_true] at h
    rw [same_eq x y h.1, sames_eq xs ys h.2]
  | [], _ :: _, h => by simp [sames] at h
  | _ :: _, [], h => by simp [sames] at h
end
theorem Inv.write (hgl : P.globals.size ≤ nb) {call : CallF} (hcall : CallsOk P nb call) (pf : PF P nt ops sops bef) (v : Inv P nb nt ops sops bef fr0 ι0 H0 w0 ds ι f G a w listed E m ids obs) {i : Nat} {o : Oper} {s : SOper}
    (ho : ops[i]? = some o) (hs : sops[i]? = some s) (hsl : slimOper P nt ops o = some s) (hi : i ∉ E) (hd : ∀ d ∈ edgesOf o, Lst listed d) {kk : Fr → Heap → R} {out : Out × Heap} (h : s.run call f G kk = some out)
    (hck : ∀ f' G', kk f' G' = some out → ∀ j ∈ E, ¬ Lst listed j → ∀ sj q, sops[j]? = some sj → sj.op = .p q → q.reads = true →
      sj.again f' G' = true ∧ ∀ t ∈ sj.looks, ∀ k sk, sops[k]? = some sk → sk.dst = some t → k ∈ bef.getD j [])
    {Q : Exit → Act → World → Prop} {K : Act → World → Prop}
    (hK : ∀ ι' f' G' a' w', Inv P nb nt ops sops bef fr0 ι0 H0 w0 ds ι' f' G' a' w' (listed.setIfInBounds i true) (i :: E) m ids obs → kk f' G' = some out → K a' w')
    (hP : ∀ (u : Value) (x : AV) (ι' : Emb) (w' : World), out.1 = .panic x → VRel nb ι' x u → Rel nb ι' out.2 w' → Ext nb ι0 H0 w0 ι' out.2 w' → KeptOf nb sops fr0 ι' a → Q (.panic [{ v := u, recovered := false }]) a w') : wpOp P ops Q i K a w := by
  obtain ⟨e1, e2, e3, e4⟩ := slimOper_inv hsl
  have hn : ¬ Lst listed i := fun e => hi (v.dE i e)
  have hbi : ∀ j ∈ bef.getD i [], j ∈ E := fun j hj => v.dE j (before_done pf v.closed i o ho hd j hj)
  have hbl : ∀ j ∈ bef.getD i [], Lst listed j := before_done pf v.closed i o ho hd
  have hilt : i < listed.size := by rw [v.size]; exact (Array.getElem?_eq_some_iff.1 ho).1
  have hdn : ∀ d, s.dst = some d → d < a.tmps.size := fun d e => by rw [v.tsize]; exact e2 d (by rw [← e1]; exact e)
  have hlooks : ∀ t ∈ s.looks, (f.mask s.looks) t = prior sops bef i f fr0 t := by
    intro t ht
    rw [mask_eq ht]
    unfold prior
    by_cases c : ∃ (j : Nat) (s : SOper), j ∈ bef.getD i [] ∧ sops[j]? = some s ∧ s.dst = some t
    · rw [if_pos c]
    · rw [if_neg c]
      refine v.unw t fun j hj sj hsj hdj => ?_
      have hij : i ≠ j := fun e => hi (e ▸ hj)
      rcases (pf.f3 i j s sj t hs hsj hij hdj).2 ht with h1 | h1
      · exact c ⟨j, sj, h1, hsj, hdj⟩
      · exact hi (v.eb j hj i h1)
  have hfr := v.sees pf ho hs hd hn hlooks (fun t ht => by simp [Fr.mask, ht])
  have hne : ∀ j ∈ E, j ≠ i := fun j hj e => hi (e ▸ hj)
  have hdst : ∀ (x : AV) j sj t, j ≠ i → sops[j]? = some sj → sj.dst = some t → (f.put s.dst x) t = f t := fun x j sj t hj hsj hd =>
    put_other fun e => (pf.f3 j i sj s t hsj hs hj e).1 hd
  have gen : ∀ (ι' : Emb) (u : Value) (x : AV) (G' : Heap) (w' : World), VRel nb ι' x u → Rel nb ι' G' w' → Ext nb ι G w ι' G' w' → kk (f.put s.dst x) G' = some out →
      Inv P nb nt ops sops bef fr0 ι0 H0 w0 ds ι' (f.put s.dst x) G' (a.put o.dst u) w' (listed.setIfInBounds i true) (i :: E) m ids obs := by
    intro ι' u x G' w' hu hr hext hkk
    refine ⟨by simp [v.size], fun j hj => ?_, fun j hj sj hsj hbig => ?_, fun j oj hoj hj d hdj => ?_, fun j hj k hk => ?_, ?_, by rw [put_size]; exact v.tsize, by rw [put_defers']; exact v.defers, fun t ht => ?_, hr, v.ext.trans hext, fun j hj hjl sj hsj => ?_, fun j hj k hk hjk hjl hkl => ?_⟩
    · rcases (Lst_set hilt).1 hj with rfl | hj
      · simp
      · exact List.mem_cons_of_mem _ (v.dE j hj)
    · rcases List.mem_cons.1 hj with rfl | hj
      · exact (Lst_set hilt).2 (.inl rfl)
      · exact (Lst_set hilt).2 (.inr (v.big j hj sj hsj hbig))
    · rcases (Lst_set hilt).1 hj with rfl | hj
      · rw [ho] at hoj; simp only [Option.some.injEq] at hoj; subst hoj
        exact (Lst_set hilt).2 (.inr (hd d hdj))
      · exact (Lst_set hilt).2 (.inr (v.closed j oj hoj hj d hdj))
    · rcases List.mem_cons.1 hj with rfl | hj
      · exact List.mem_cons_of_mem _ (hbi k hk)
      · exact List.mem_cons_of_mem _ (v.eb j hj k hk)
    · have hview : FRel nb ι (view sops listed (f.put s.dst x) fr0) a.tmps := by
        intro t
        have := v.frame t
        unfold view at this ⊢
        by_cases c : ∃ (i : Nat) (s : SOper), Lst listed i ∧ sops[i]? = some s ∧ s.dst = some t
        · rw [if_pos c] at this ⊢
          obtain ⟨j, sj, hj, hsj, hd⟩ := c
          rw [hdst x j sj t (hne j (v.dE j hj)) hsj hd]
          exact this
        · rw [if_neg c] at this ⊢
          exact this
      rw [← e1]
      exact view_put pf hs hilt hext.le hview hdn hu fun d e => put_same e
    · have h1 : s.dst ≠ some t := ht i (by simp) s hs
      rw [put_other h1]
      exact v.unw t fun j hj => ht j (List.mem_cons_of_mem _ hj)
    · have hji : j ≠ i := fun e => hjl ((Lst_set hilt).2 (.inl e))
      have hjl' : ¬ Lst listed j := fun e => hjl ((Lst_set hilt).2 (.inr e))
      have hjE : j ∈ E := by
        rcases List.mem_cons.1 hj with e | e
        · exact absurd e hji
        · exact e
      refine (v.pend j hjE hjl' sj hsj).move (fun k hk sk hsk t hd => hdst x k sk t (hne k (v.eb j hjE k hk)) hsk hd) (fun t hd => hdst x j sj t hji hsj hd) (fun q y hq hw hy _ hfd => ?_) hext.n (fun hk hn => hext.unborn _ hk hn) (fun hk hn _ _ => ?_)
      · cases hrd : q.reads with
        | false => rw [← POp.still (H := G) hrd]; exact hy
        | true =>
          obtain ⟨hag, hwr⟩ := hck _ _ hkk j hjE hjl' sj q hsj hq hrd
          have hmj : ∀ t ∈ sj.looks, m j t = (f.put s.dst x) t := by
            intro t ht
            rw [(v.pend j hjE hjl' sj hsj).looks t ht]
            unfold prior
            by_cases c : ∃ (k : Nat) (s : SOper), k ∈ bef.getD j [] ∧ sops[k]? = some s ∧ s.dst = some t
            · rw [if_pos c]
              obtain ⟨k, sk, hk, hsk, hd⟩ := c
              exact (hdst x k sk t (hne k (v.eb j hjE k hk)) hsk hd).symm
            · rw [if_neg c]
              have h1 : s.dst ≠ some t := fun e => c ⟨i, s, hwr t ht i s hs e, hs, e⟩
              rw [put_other h1]
              exact (v.unw t fun k hk sk hsk hd => c ⟨k, sk, hwr t ht k sk hsk hd, hsk, hd⟩).symm
          unfold SOper.again at hag
          rw [hq] at hag
          have hwf : wants (f.put s.dst x) sj.guard = some true := by
            rw [← hw]
            exact (wants_congr fun t c e => hmj t (SOper.guard_looks e)).symm
          rw [hwf] at hag
          cases hdj : sj.dst with
          | none => rw [hdj] at hag; cases hag
          | some t =>
            rw [hdj] at hag
            simp only [] at hag
            have hcq : q.val (m j) G' = q.val (f.put s.dst x) G' := POp.congr fun t ht => hmj t (SOper.op_looks (by rw [hq]; exact ht))
            cases hqv : q.val (f.put s.dst x) G' with
            | none => rw [hqv] at hag; cases hag
            | some y' =>
              rw [hqv] at hag
              simp only [] at hag
              have := same_eq _ _ hag
              rw [hcq, hqv, this, hdst x j sj t hji hsj hdj, hfd t hdj]
      · cases e : ι' (ids j) with
        | none => rfl
        | some q =>
          rcases hext.fresh _ q e with h1 | h1
          · rw [hn] at h1; cases h1
          · omega
    · have hji : j ≠ i := fun e => hjl ((Lst_set hilt).2 (.inl e))
      have hki : k ≠ i := fun e => hkl ((Lst_set hilt).2 (.inl e))
      have hjl' : ¬ Lst listed j := fun e => hjl ((Lst_set hilt).2 (.inr e))
      have hkl' : ¬ Lst listed k := fun e => hkl ((Lst_set hilt).2 (.inr e))
      have hjE : j ∈ E := by
        rcases List.mem_cons.1 hj with e | e
        · exact absurd e hji
        · exact e
      have hkE : k ∈ E := by
        rcases List.mem_cons.1 hk with e | e
        · exact absurd e hki
        · exact e
      exact v.apart j hjE k hkE hjk hjl' hkl'
  obtain ⟨b, hb, h⟩ := Option.bind_eq_some_iff.1 h
  have hwm : wants (f.mask s.looks) s.guard = some b := by
    rw [← hb]
    exact wants_congr fun t c e => mask_eq (SOper.guard_looks e)
  have hw := wanted_sound hfr v.tsize e3 hwm
  unfold wpOp
  rw [ho]
  simp only []
  cases b with
  | false =>
    simp only [cond_false] at h
    rw [if_neg (by rw [hw]; decide)]
    exact hK ι _ G _ w (gen ι undef skipped G w (by simp [skipped, VRel, VRels, undef]) v.rel Ext.refl h) h
  | true =>
    simp only [cond_true] at h
    rw [if_pos hw]
    left
    have h' : s.op.run call (f.mask s.looks) G (fun x G' => kk (f.put s.dst x) G') = some out := by
      rw [← h]
      exact SOp.congr fun t ht => mask_eq (SOper.op_looks ht)
    exact sop_step hcall hgl hfr v.rel e4 h' (fun u x ι' G' w' hu hr hext hkk => hK ι' _ G' _ w' (gen ι' u x G' w' hu hr hext hkk) hkk) (fun u x ι' w' ho' hu hr hext => hP u x ι' w' ho' hu hr (v.ext.trans hext) (fun t ht => by
      have h9 := v.frame t
      unfold view at h9
      rw [if_neg (by rintro ⟨i, s, _, hs', hd'⟩; exact ht i s hs' hd')] at h9
      exact VRel.mono hext.1 _ _ h9))
theorem Inv.takeAll {call : CallF} (pf : PF P nt ops sops bef) : ∀ (l : List Nat) {rest : List Nat} {ls : List SOper} {ι : Emb} {f : Fr} {G : Heap} {E : List Nat} {m : Nat → Fr} {ids : Nat → Nat} {obs : Nat → Obj} {kk : Fr → Heap → R} {out : Out × Heap},
    Inv P nb nt ops sops bef fr0 ι0 H0 w0 ds ι f G a w listed E m ids obs → extOk bef E (l ++ rest) = true → (∀ i ∈ l, ∀ s, sops[i]? = some s → s.big = false) → pickAll sops l = some ls → runOps call ls f G kk = some out →
    ∃ f' G' m' ids' obs', Inv P nb nt ops sops bef fr0 ι0 H0 w0 ds ι f' G' a w listed (l.reverse ++ E) m' ids' obs' ∧ kk f' G' = some out ∧ extOk bef (l.reverse ++ E) rest = true
  | [], rest, ls, ι, f, G, E, m, ids, obs, kk, out, v, he, _, hp, h => by
    simp only [pickAll, Option.some.injEq] at hp
    subst hp
    exact ⟨f, G, m, ids, obs, v, h, he⟩
  | i :: l, rest, ls, ι, f, G, E, m, ids, obs, kk, out, v, he, hsm, hp, h => by
    simp only [pickAll, Option.bind_eq_some_iff, Option.map_eq_some_iff] at hp
    obtain ⟨s, hs, ls', hls, rfl⟩ := hp
    simp only [List.cons_append, extOk, Bool.and_eq_true, Bool.not_eq_true', List.all_eq_true, List.contains_iff_mem] at he
    obtain ⟨⟨h1, h2⟩, h3⟩ := he
    have hi : i ∉ E := fun e => by rw [List.contains_iff_mem.2 e] at h1; cases h1
    obtain ⟨f1, G1, m1, ids1, obs1, v1, hk1⟩ := v.take pf hs (hsm i (by simp) s hs) hi h2 h
    obtain ⟨f', G', m', ids', obs', v', hk, he'⟩ := Inv.takeAll pf l v1 h3 (fun j hj => hsm j (List.mem_cons_of_mem _ hj)) hls hk1
    refine ⟨f', G', m', ids', obs', ?_, hk, ?_⟩
    · simpa using v'
    · simpa using he'
theorem phs_wait : ∀ (l : List (Nat × List Nat × List Nat)) {E done : List Nat} {x : Nat}, phsOk sops bef done (some x) l = true → x ∉ E → (∀ i ∈ l.flatMap fun q => q.1 :: q.2.2, i ∉ E) →
    ∀ i ∈ l.flatMap fun q => q.1 :: q.2.2, ∃ j ∈ bef.getD i [], j ∉ E
  | [], E, done, x, _, _, _, i, hi => by simp at hi
  | (wi, cks, sm) :: l, E, done, x, h, hx, hall, i, hi => by
    simp only [phsOk, Bool.and_eq_true, List.all_eq_true, List.contains_iff_mem] at h
    obtain ⟨⟨⟨⟨⟨h1, h2⟩, h3⟩, h4⟩, h5⟩, h6⟩ := h
    simp only [List.flatMap_cons, List.cons_append, List.mem_cons, List.mem_append] at hi
    have hw : wi ∉ E := hall wi (by simp)
    rcases hi with rfl | hi | hi
    · exact ⟨x, h2, hx⟩
    · exact ⟨wi, (h5 i hi).2, hw⟩
    · exact phs_wait l h6 hw (fun j hj => hall j (by simp only [List.flatMap_cons]; exact List.mem_append_right _ hj)) i hi
theorem extOk_not : ∀ (l : List Nat) {E : List Nat}, extOk bef E l = true → ∀ i ∈ l, i ∉ E
  | [], E, _, i, hi => by cases hi
  | j :: l, E, h, i, hi => by
    simp only [extOk, Bool.and_eq_true, Bool.not_eq_true', List.all_eq_true, List.contains_iff_mem] at h
    obtain ⟨⟨h1, h2⟩, h3⟩ := h
    rcases List.mem_cons.1 hi with rfl | hi
    · exact fun e => by rw [List.contains_iff_mem.2 e] at h1; cases h1
    · exact fun e => extOk_not l h3 i hi (List.mem_cons_of_mem _ e)
theorem draw_finish {call : CallF} (hlen : sops.length = ops.size) {K : Fr → Heap → R} {out : Out × Heap} {Q : Exit → Act → World → Prop}
    (hQ : ∀ ι' f' G' a' w', FRel nb ι' f' a'.tmps → a'.tmps.size = nt → a'.defers = ds → Rel nb ι' G' w' → Ext nb ι0 H0 w0 ι' G' w' → K f' G' = some out → Q .normal a' w')
    {phs : List (Nat × List Nat × List Nat)} {phsS : List (SOper × List SOper × List SOper)}
    (v : Inv P nb nt ops sops bef fr0 ι0 H0 w0 ds ι f G a w listed E m ids obs) (he : extOk bef E (phs.flatMap fun q => q.1 :: q.2.2) = true) (hpk : pickPhs sops phs = some phsS)
    (hrun : runPhs call phsS f G K = some out) (hall : ∀ i, i < ops.size → Lst listed i) : Q .normal a w := by
  have hlt : ∀ i s, sops[i]? = some s → i < ops.size := fun i s h => by rw [← hlen]; exact (List.getElem?_eq_some_iff.1 h).1
  cases phs with
  | cons q l =>
    obtain ⟨wi, cks, sm⟩ := q
    simp only [pickPhs, Option.bind_eq_some_iff] at hpk
    obtain ⟨o, ho, _⟩ := hpk
    exact absurd (v.dE wi (hall wi (hlt wi o ho))) (extOk_not _ he wi (by simp))
  | nil =>
    simp only [pickPhs, Option.some.injEq] at hpk
    subst hpk
    refine hQ ι f G a w (fun t => ?_) v.tsize v.defers v.rel v.ext hrun
    have := v.frame t
    unfold view at this
    by_cases c : ∃ (i : Nat) (s : SOper), Lst listed i ∧ sops[i]? = some s ∧ s.dst = some t
    · rw [if_pos c] at this; exact this
    · rw [if_neg c] at this
      rw [v.unw t fun i hi s hs hd => c ⟨i, s, hall i (hlt i s hs), hs, hd⟩]
      exact this
theorem draw_any (hgl : P.globals.size ≤ nb) {call : CallF} (hcall : CallsOk P nb call) (pf : PF P nt ops sops bef) (hlen : sops.length = ops.size) {K : Fr → Heap → R} {out : Out × Heap} {Q : Exit → Act → World → Prop}
    (hQ : ∀ ι' f' G' a' w', FRel nb ι' f' a'.tmps → a'.tmps.size = nt → a'.defers = ds → Rel nb ι' G' w' → Ext nb ι0 H0 w0 ι' G' w' → K f' G' = some out → Q .normal a' w')
    (hP : ∀ (u : Value) (x : AV) (ι' : Emb) (a' : Act) (w' : World), out.1 = .panic x → VRel nb ι' x u → Rel nb ι' out.2 w' → Ext nb ι0 H0 w0 ι' out.2 w' → a'.defers = ds → KeptOf nb sops fr0 ι' a' → Q (.panic [{ v := u, recovered := false }]) a' w') :
    ∀ (fuel : Nat) {phs : List (Nat × List Nat × List Nat)} {phsS : List (SOper × List SOper × List SOper)} {last : Option Nat} {ι : Emb} {f : Fr} {G : Heap} {a : Act} {w : World} {listed : Array Bool} {E : List Nat} {m : Nat → Fr} {ids : Nat → Nat} {obs : Nat → Obj},
    Inv P nb nt ops sops bef fr0 ι0 H0 w0 ds ι f G a w listed E m ids obs → extOk bef E (phs.flatMap fun q => q.1 :: q.2.2) = true → phsOk sops bef E last phs = true → pickPhs sops phs = some phsS →
    (∀ i, i < ops.size → i ∈ E ∨ i ∈ phs.flatMap fun q => q.1 :: q.2.2) → runPhs call phsS f G K = some out → Lite.left listed ops.size ≤ fuel → wpAny P .any ops Q fuel listed a w := by
  intro fuel
  induction fuel with
  | zero =>
    intro phs phsS last ι f G a w listed E m ids obs v he hph hpk hcov hrun hl
    have hall : ∀ i, i < ops.size → Lst listed i := fun i hi => by
      have : i ∉ (List.range ops.size).filter fun i => !listed.getD i false := by
        have h0 : (List.range ops.size).filter (fun i => !listed.getD i false) = [] := List.eq_nil_of_length_eq_zero (by unfold Lite.left at hl; omega)
        rw [h0]; simp
      simp only [List.mem_filter, List.mem_range, hi, true_and, Bool.not_eq_true', Bool.not_eq_false] at this
      exact this
    refine ⟨?_, draw_finish hlen hQ v he hpk hrun hall⟩
    apply List.eq_nil_iff_forall_not_mem.2
    intro i hi
    obtain ⟨h1, o, ho, _⟩ := mem_ready.1 hi
    have hlt : i < ops.size := (Array.getElem?_eq_some_iff.1 ho).1
    have := hall i hlt
    unfold Lst at this
    have hs : i < listed.size := by rw [v.size]; exact hlt
    simp [Array.getD_eq_getD_getElem?, hs] at this h1
    rw [this] at h1; cases h1
  | succ fuel ih =>
    intro phs phsS last ι f G a w listed E m ids obs v he hph hpk hcov hrun hl
    refine ⟨fun hready => ?_, fun i hi => ?_⟩
    · refine draw_finish hlen hQ v he hpk hrun fun i => ?_
      induction i using Nat.strongRecOn with
      | _ i ihi =>
        intro hi
        by_cases hn : Lst listed i
        · exact hn
        · exfalso
          have hr : i ∈ Region.ready .any ops listed := by
            refine mem_ready.2 ⟨?_, ops[i], Array.getElem?_eq_getElem hi, fun e hem hb => ?_⟩
            · have hs : i < listed.size := by rw [v.size]; exact hi
              unfold Lst at hn
              simp [Array.getD_eq_getD_getElem?, hs] at hn ⊢
              exact hn
            · have hd : e.on ∈ edgesOf ops[i] := by
                unfold edgesOf
                exact List.mem_map.2 ⟨e, List.mem_filter.2 ⟨by simpa using hem, hb⟩, rfl⟩
              have hlt := pf.f1 i ops[i] (Array.getElem?_eq_getElem hi) _ hd
              exact ihi e.on hlt (by omega)
          rw [hready] at hr; cases hr
    · obtain ⟨h1, o, ho, hdeps⟩ := mem_ready.1 hi
      have hlt : i < ops.size := (Array.getElem?_eq_some_iff.1 ho).1
      have hn : ¬ Lst listed i := by
        have hs : i < listed.size := by rw [v.size]; exact hlt
        unfold Lst
        simp [Array.getD_eq_getD_getElem?, hs] at h1 ⊢
        exact h1
      have hd : ∀ d ∈ edgesOf o, Lst listed d := fun d hd => by
        unfold edgesOf at hd
        obtain ⟨e, hem, rfl⟩ := List.mem_map.1 hd
        obtain ⟨h2, h3⟩ := List.mem_filter.1 hem
        exact hdeps e (by simpa using h2) h3
      have hls : Lite.left (listed.setIfInBounds i true) ops.size ≤ fuel := by
        have := left_set hlt v.size hn; omega
      by_cases hE : i ∈ E
      · exact v.carry hgl pf ho hE hd hn fun ι' a' w' v' => ih v' he hph hpk hcov hrun hls
      · have hbE : ∀ j ∈ bef.getD i [], j ∈ E := fun j hj => v.dE j (before_done pf v.closed i o ho hd j hj)
        have hrem := (hcov i hlt).resolve_left hE
        cases phs with
        | nil => simp at hrem
        | cons q l =>
          obtain ⟨wi, cks, sm⟩ := q
          have hnot := extOk_not _ he
          simp only [phsOk, Bool.and_eq_true, List.all_eq_true, List.contains_iff_mem] at hph
          obtain ⟨⟨⟨⟨⟨p1, p2⟩, p3⟩, p4⟩, p5⟩, p6⟩ := hph
          have hwi : wi ∉ E := hnot wi (by simp)
          obtain rfl : i = wi := by
            simp only [List.flatMap_cons, List.cons_append, List.mem_cons, List.mem_append] at hrem
            rcases hrem with h | h | h
            · exact h
            · exact absurd (hbE wi (p5 i h).2) hwi
            · obtain ⟨j, hj, hjn⟩ := phs_wait l p6 hwi (fun j hj => hnot j (by simp only [List.flatMap_cons]; exact List.mem_append_right _ hj)) i h
              exact absurd (hbE j hj) hjn
          simp only [pickPhs, Option.bind_eq_some_iff, Option.map_eq_some_iff] at hpk
          obtain ⟨s, hs, cs, hcs, ss, hss, ls, hls', rfl⟩ := hpk
          obtain ⟨s', hs', hsl⟩ := pf.so i o ho
          obtain rfl : s' = s := by rw [hs] at hs'; simpa using hs'.symm
          simp only [runPhs] at hrun
          have hbl := before_done pf v.closed i o ho hd
          refine v.write hgl hcall pf ho hs hsl hE hd hrun (fun f' G' hk j hj hjl sj q hsj hq hqr => ?_) (fun ι' f' G' a' w' v' hk => ?_) (fun u x ι' w' h1 h2 h3 h4 h5 => hP u x ι' a w' h1 h2 h3 h4 v.defers h5)
          · have hcks : cs.all (fun c => c.again f' G') = true := by
              cases hb : cs.all (fun c => c.again f' G') with
              | true => rfl
              | false => rw [hb] at hk; cases hk
            have hjb : j ∉ bef.getD i [] := fun e => hjl (hbl j e)
            have hjc : j ∈ cks := by
              have := p3 j hj
              rw [hsj] at this
              simp only [Option.any_some, Bool.or_eq_true, Bool.not_eq_true', Bool.and_eq_false_iff, Bool.not_eq_false', List.contains_iff_mem] at this
              rcases this with (h | h) | h
              · have hbig : sj.big = false := by unfold SOper.big; rw [hq]
                have hrr : sj.rereads = true := by unfold SOper.rereads; rw [hq]; exact hqr
                rcases h with h | h
                · rw [hbig] at h; cases h
                · rw [hrr] at h; cases h
              · exact absurd h hjb
              · exact h
            have hpick : ∀ (l : List Nat) (ls : List SOper), pickAll sops l = some ls → ∀ j ∈ l, ∀ sj, sops[j]? = some sj → sj ∈ ls := by
              intro l
              induction l with
              | nil => intro _ _ j hj; cases hj
              | cons k l ihl =>
                intro ls hp j hj sj hsj
                simp only [pickAll, Option.bind_eq_some_iff, Option.map_eq_some_iff] at hp
                obtain ⟨sk, hsk, ls', hls', rfl⟩ := hp
                rcases List.mem_cons.1 hj with rfl | hj
                · rw [hsk] at hsj; simp only [Option.some.injEq] at hsj; subst hsj; simp
                · exact List.mem_cons_of_mem _ (ihl ls' hls' j hj sj hsj)
            refine ⟨List.all_eq_true.1 hcks sj (hpick cks cs hcs j hjc sj hsj), fun t ht k sk hsk hkd => ?_⟩
            have h4 := p4 j hjc
            rw [hsj] at h4
            simp only [Option.any_some, Bool.and_eq_true, List.all_eq_true, List.mem_range] at h4
            have := h4.2.2 k (List.getElem?_eq_some_iff.1 hsk).1
            rw [hsk] at this
            simp only [Option.bind_some, hkd] at this
            simp only [Bool.or_eq_true, Bool.not_eq_true', List.contains_iff_mem] at this
            rcases this with h | h
            · rw [List.contains_iff_mem.2 ht] at h; cases h
            · exact h
          · have hcks : cs.all (fun c => c.again f' G') = true := by
              cases hb : cs.all (fun c => c.again f' G') with
              | true => rfl
              | false => rw [hb] at hk; cases hk
            rw [hcks] at hk
            simp only [cond_true] at hk
            have he' : extOk bef (i :: E) (sm ++ l.flatMap fun q => q.1 :: q.2.2) = true := by
              simp only [List.flatMap_cons, List.cons_append, extOk, Bool.and_eq_true] at he
              exact he.2
            obtain ⟨f2, G2, m2, ids2, obs2, v2, hk2, he2⟩ := Inv.takeAll pf sm v' he' (fun j hj sj hsj => by
              have := (p5 j hj).1
              rw [hsj] at this
              simpa using this) hss hk
            refine ih v2 he2 p6 hls' (fun j hj => ?_) hk2 hls
            rcases hcov j hj with h | h
            · exact .inl (List.mem_append_right _ (List.mem_cons_of_mem _ h))
            · simp only [List.flatMap_cons, List.cons_append, List.mem_cons, List.mem_append] at h
              rcases h with rfl | h | h
              · exact .inl (List.mem_append_right _ (by simp))
              · exact .inl (List.mem_append_left _ (List.mem_reverse.2 h))
              · exact .inr h
end Go.Lite

/-
  A region whose order is open, with two stores at its end that may come in either order.
-/
namespace Go.Lite
open Go
open Classical
theorem into_inv {o : SOper} {fr : Fr} {k : Nat} (h : o.into fr = some k) : ∃ n a x off, o = ⟨none, none, .w (.store n a x)⟩ ∧ a.ev fr = .ptr (.new k) off := by
  obtain ⟨d, g, op⟩ := o
  unfold SOper.into at h
  cases d with
  | some d => cases h
  | none => cases g with
    | some g => cases h
    | none => cases op with
      | w q => cases q with
        | store n a x =>
          simp only [] at h
          split at h
          · rename_i k' off he
            simp only [Option.some.injEq] at h
            subst h
            exact ⟨n, a, x, off, rfl, he⟩
          · cases h
        | append e s b x y => cases h
        | nextT x => cases h
      | p q => cases h
      | a q => cases h
      | call f l => cases h
      | panic x => cases h
theorem store_run {call : CallF} {n k off : Nat} {a x : SX} {fr : Fr} {H : Heap} {K : Fr → Heap → R} (he : a.ev fr = .ptr (.new k) off) :
    (SOper.mk none none (.w (.store n a x))).run call fr H K = (x.ev fr).cells.bind fun vs => if vs.length = n ∧ vs.all AV.flat = true then (H.st (.new k) off vs).bind fun H' => K fr H' else none := by
  simp only [SOper.run, wants, Option.bind_some, cond_true, SOp.run, WOp.val, he, AV.asPtr]
  cases hx : (x.ev fr).cells with
  | none => rfl
  | some vs =>
    simp only [Option.bind_some]
    by_cases hc : vs.length = n ∧ vs.all AV.flat = true
    · rw [if_pos hc, if_pos hc]
      cases H.st (.new k) off vs <;> rfl
    · rw [if_neg hc, if_neg hc]; rfl
theorem st_put {H : Heap} {k j off : Nat} {vs : List AV} {H' : Heap} (hkj : k ≠ j) (h : H.st (.new k) off vs = some H') : H'.t.get j = H.t.get j := by
  unfold Heap.st at h
  split at h
  · cases h
  · cases h
  · rename_i k' hk
    simp only [Blk.new.injEq] at hk
    subst hk
    split at h
    · split at h
      · simp only [Option.some.injEq] at h
        subst h
        simp only [Heap.put, T.get_set]
        rw [if_neg (fun e => hkj e.symm)]
      · cases h
    · cases h
theorem st_new {H : Heap} {k off : Nat} {vs : List AV} : H.st (.new k) off vs = match H.t.get k with
    | some (.row cs es false ty) => if off + vs.length ≤ cs.length then some (H.put k (.row (putAt cs off vs) es false ty)) else none
    | _ => none := rfl
theorem st_comm {H : Heap} {k j o u : Nat} {vs ws : List AV} (hkj : k ≠ j) : ((H.st (.new k) o vs).bind fun G => G.st (.new j) u ws) = ((H.st (.new j) u ws).bind fun G => G.st (.new k) o vs) := by
  have key : ∀ (k j o u : Nat) (vs ws : List AV) (A B : Heap), k ≠ j → H.st (.new k) o vs = some A → A.st (.new j) u ws = some B → ∃ C, H.st (.new j) u ws = some C ∧ C.st (.new k) o vs = some B := by
    intro k j o u vs ws A B hkj h1 h2
    have g1 := st_put hkj h1
    rw [st_new, g1] at h2
    rw [st_new] at h1
    split at h1
    case h_2 => cases h1
    rename_i cs es ty hk
    split at h1
    case isFalse => cases h1
    rename_i hl
    simp only [Option.some.injEq] at h1
    subst h1
    split at h2
    case h_2 => cases h2
    rename_i ds fs ty2 hj
    split at h2
    case isFalse => cases h2
    rename_i hl2
    simp only [Option.some.injEq] at h2
    subst h2
    refine ⟨H.put j (.row (putAt ds u ws) fs false ty2), by rw [st_new, hj]; simp only []; rw [if_pos hl2], ?_⟩
    have : (H.put j (.row (putAt ds u ws) fs false ty2)).t.get k = H.t.get k := by
      simp only [Heap.put, T.get_set]
      rw [if_neg hkj]
    rw [st_new, this, hk]
    simp only []
    rw [if_pos hl]
    simp only [Heap.put, Option.some.injEq, Heap.mk.injEq, true_and, and_true]
    exact T.set_comm H.t j k _ _ _ _ (Ne.symm hkj) hj hk
  cases h1 : (H.st (.new k) o vs).bind fun G => G.st (.new j) u ws with
  | some B =>
    obtain ⟨A, hA, hB⟩ := Option.bind_eq_some_iff.1 h1
    obtain ⟨C, hC, hD⟩ := key k j o u vs ws A B hkj hA hB
    rw [hC, Option.bind_some, hD]
  | none =>
    cases h2 : (H.st (.new j) u ws).bind fun G => G.st (.new k) o vs with
    | none => rfl
    | some B =>
      obtain ⟨A, hA, hB⟩ := Option.bind_eq_some_iff.1 h2
      obtain ⟨C, hC, hD⟩ := key j k u o ws vs A B (Ne.symm hkj) hA hB
      rw [hC, Option.bind_some, hD] at h1
      cases h1
theorem asunder_inv {a b : SOper} {fr : Fr} (h : asunder a b fr = true) : ∃ j k, a.into fr = some j ∧ b.into fr = some k ∧ j ≠ k := by
  unfold asunder at h
  split at h
  · rename_i j k hj hk
    refine ⟨j, k, hj, hk, fun e => ?_⟩
    subst e
    simp at h
  · cases h
theorem asunder_swap {call : CallF} {a b : SOper} {fr : Fr} {H : Heap} {K : Fr → Heap → R} (h : asunder a b fr = true) :
    (a.run call fr H fun fr H => b.run call fr H K) = (b.run call fr H fun fr H => a.run call fr H K) := by
  obtain ⟨j, k, hj, hk, hjk⟩ := asunder_inv h
  obtain ⟨n, p, x, o, rfl, hp⟩ := into_inv hj
  obtain ⟨m, q, y, u, rfl, hq⟩ := into_inv hk
  rw [store_run hp, store_run hq]
  have e1 : (fun G => (SOper.mk none none (.w (.store m q y))).run call fr G K) = fun G => (y.ev fr).cells.bind fun ws => if ws.length = m ∧ ws.all AV.flat = true then (G.st (.new k) u ws).bind fun H' => K fr H' else none := funext fun G => store_run hq
  have e2 : (fun G => (SOper.mk none none (.w (.store n p x))).run call fr G K) = fun G => (x.ev fr).cells.bind fun vs => if vs.length = n ∧ vs.all AV.flat = true then (G.st (.new j) o vs).bind fun H' => K fr H' else none := funext fun G => store_run hp
  simp only [e1, e2]
  cases hx : (x.ev fr).cells with
  | none =>
    simp only [Option.bind_none]
    cases hy : (y.ev fr).cells with
    | none => rfl
    | some ws =>
      simp only [Option.bind_some]
      split
      · cases H.st (.new k) u ws <;> rfl
      · rfl
  | some vs =>
    simp only [Option.bind_some]
    cases hy : (y.ev fr).cells with
    | none =>
      simp only [Option.bind_none]
      split
      · cases H.st (.new j) o vs <;> rfl
      · rfl
    | some ws =>
      simp only [Option.bind_some]
      by_cases c1 : vs.length = n ∧ vs.all AV.flat = true
      · by_cases c2 : ws.length = m ∧ ws.all AV.flat = true
        · simp only [c1, c2, and_self, if_true]
          have := congrArg (fun z => z.bind fun G => K fr G) (st_comm (H := H) (o := o) (u := u) (vs := vs) (ws := ws) hjk)
          simpa only [Option.bind_assoc] using this
        · simp only [c1, c2, and_self, if_true, if_false]
          cases H.st (.new j) o vs <;> rfl
      · by_cases c2 : ws.length = m ∧ ws.all AV.flat = true
        · simp only [c1, c2, and_self, if_true, if_false]
          cases H.st (.new k) u ws <;> rfl
        · simp only [c1, c2, if_false]
variable {P : Program} {nb : NB} {nt : Nat} {ops : Array Oper} {sops : List SOper} {bef : List (List Nat)} {fr0 : Fr} {ι0 : Emb} {H0 : Heap} {w0 : World} {ds : List Deferred}
  {ι : Emb} {f : Fr} {G : Heap} {a : Act} {w : World} {listed : Array Bool} {E : List Nat} {m : Nat → Fr} {ids : Nat → Nat} {obs : Nat → Obj}
theorem ready_all (pf : PF P nt ops sops bef) (hsz : listed.size = ops.size) (hready : Region.ready .any ops listed = []) : ∀ i, i < ops.size → Lst listed i := by
  intro i
  induction i using Nat.strongRecOn with
  | _ i ihi =>
    intro hi
    by_cases hn : Lst listed i
    · exact hn
    · exfalso
      have hr : i ∈ Region.ready .any ops listed := by
        refine mem_ready.2 ⟨?_, ops[i], Array.getElem?_eq_getElem hi, fun e hem hb => ?_⟩
        · have hs : i < listed.size := by rw [hsz]; exact hi
          unfold Lst at hn
          simp [Array.getD_eq_getD_getElem?, hs] at hn ⊢
          exact hn
        · have hd : e.on ∈ edgesOf ops[i] := by
            unfold edgesOf
            exact List.mem_map.2 ⟨e, List.mem_filter.2 ⟨by simpa using hem, hb⟩, rfl⟩
          have hlt := pf.f1 i ops[i] (Array.getElem?_eq_getElem hi) _ hd
          exact ihi e.on hlt (by omega)
      rw [hready] at hr; cases hr
theorem left_zero (hl : Lite.left listed ops.size ≤ 0) : ∀ i, i < ops.size → Lst listed i := fun i hi => by
  have : i ∉ (List.range ops.size).filter fun i => !listed.getD i false := by
    have h0 : (List.range ops.size).filter (fun i => !listed.getD i false) = [] := List.eq_nil_of_length_eq_zero (by unfold Lite.left at hl; omega)
    rw [h0]; simp
  simp only [List.mem_filter, List.mem_range, hi, true_and, Bool.not_eq_true', Bool.not_eq_false] at this
  exact this
theorem draw_pair (hgl : P.globals.size ≤ nb) {call : CallF} (hcall : CallsOk P nb call) (pf : PF P nt ops sops bef) (hlen : sops.length = ops.size) {K : Fr → Heap → R} {out : Out × Heap} {Q : Exit → Act → World → Prop}
    (hQ : ∀ ι' f' G' a' w', FRel nb ι' f' a'.tmps → a'.tmps.size = nt → a'.defers = ds → Rel nb ι' G' w' → Ext nb ι0 H0 w0 ι' G' w' → K f' G' = some out → Q .normal a' w')
    (hP : ∀ (u : Value) (x : AV) (ι' : Emb) (a' : Act) (w' : World), out.1 = .panic x → VRel nb ι' x u → Rel nb ι' out.2 w' → Ext nb ι0 H0 w0 ι' out.2 w' → a'.defers = ds → KeptOf nb sops fr0 ι' a' → Q (.panic [{ v := u, recovered := false }]) a' w')
    {wi wj : Nat} {si sj : SOper} (hsi : sops[wi]? = some si) (hsj : sops[wj]? = some sj) (hbi : si.big = true) (hbj : sj.big = true) :
    ∀ (fuel : Nat) {ι : Emb} {f : Fr} {G : Heap} {a : Act} {w : World} {listed : Array Bool} {E : List Nat} {m : Nat → Fr} {ids : Nat → Nat} {obs : Nat → Obj},
    Inv P nb nt ops sops bef fr0 ι0 H0 w0 ds ι f G a w listed E m ids obs → extOk bef E [wi, wj] = true → extOk bef E [wj, wi] = true →
    (∀ i ∈ E, (sops[i]?).any (fun o => !o.big && o.rereads) = true → i ∈ bef.getD wi [] ∧ i ∈ bef.getD wj []) →
    (∀ i, i < ops.size → i ∈ E ∨ i = wi ∨ i = wj) → asunder si sj f = true → (si.run call f G fun f G => sj.run call f G K) = some out → Lite.left listed ops.size ≤ fuel → wpAny P .any ops Q fuel listed a w := by
  intro fuel
  induction fuel with
  | zero =>
    intro ι f G a w listed E m ids obs v he he' hb hcov has hrun hl
    exact absurd (v.dE wi (left_zero hl wi (by rw [← hlen]; exact (List.getElem?_eq_some_iff.1 hsi).1))) (extOk_not _ he wi (by simp))
  | succ fuel ih =>
    intro ι f G a w listed E m ids obs v he he' hb hcov has hrun hl
    refine ⟨fun hready => absurd (v.dE wi (ready_all pf v.size hready wi (by rw [← hlen]; exact (List.getElem?_eq_some_iff.1 hsi).1))) (extOk_not _ he wi (by simp)), fun i hi => ?_⟩
    obtain ⟨h1, o, ho, hdeps⟩ := mem_ready.1 hi
    have hlt : i < ops.size := (Array.getElem?_eq_some_iff.1 ho).1
    have hn : ¬ Lst listed i := by
      have hs : i < listed.size := by rw [v.size]; exact hlt
      unfold Lst
      simp [Array.getD_eq_getD_getElem?, hs] at h1 ⊢
      exact h1
    have hd : ∀ d ∈ edgesOf o, Lst listed d := fun d hd => by
      unfold edgesOf at hd
      obtain ⟨e, hem, rfl⟩ := List.mem_map.1 hd
      obtain ⟨h2, h3⟩ := List.mem_filter.1 hem
      exact hdeps e (by simpa using h2) h3
    have hls : Lite.left (listed.setIfInBounds i true) ops.size ≤ fuel := by
      have := left_set hlt v.size hn; omega
    by_cases hE : i ∈ E
    · exact v.carry hgl pf ho hE hd hn fun ι' a' w' v' => ih v' he he' hb hcov has hrun hls
    · have hbl := before_done pf v.closed i o ho hd
      -- one of the two is carried out; the other one is left
      have one : ∀ (x y : Nat) (sx sy : SOper), sops[x]? = some sx → sops[y]? = some sy → sy.big = true → extOk bef E [x, y] = true → (∀ i ∈ E, (sops[i]?).any (fun o => !o.big && o.rereads) = true → i ∈ bef.getD x [] ∧ i ∈ bef.getD y []) →
          (∀ i, i < ops.size → i ∈ E ∨ i = x ∨ i = y) → (sx.run call f G fun f G => sy.run call f G K) = some out → sx.big = true → i = x → wpOp P ops Q i (fun a' w' => wpAny P .any ops Q fuel (listed.setIfInBounds i true) a' w') a w := by
        intro x y sx sy hsx hsy hby hex hbb hc hr hbx hix
        subst hix
        obtain ⟨s', hs', hsl⟩ := pf.so i o ho
        obtain rfl : s' = sx := by rw [hsx] at hs'; simpa using hs'.symm
        refine v.write hgl hcall pf ho hsx hsl hE hd hr (fun f' G' hk j hj hjl sj q hsj hq hqr => ?_) (fun ι' f' G' a' w' v' hk => ?_) (fun u x ι' w' h1 h2 h3 h4 h5 => hP u x ι' a w' h1 h2 h3 h4 v.defers h5)
        · refine absurd (hbl j (hbb j hj ?_).1) hjl
          rw [hsj]
          have hbig : sj.big = false := by unfold SOper.big; rw [hq]
          have hrr : sj.rereads = true := by unfold SOper.rereads; rw [hq]; exact hqr
          simp [hbig, hrr]
        · simp only [extOk, Bool.and_eq_true] at hex
          refine draw_any hgl hcall pf hlen hQ hP fuel (phs := [(y, [], [])]) (phsS := [(sy, [], [])]) (last := none) v' ?_ ?_ ?_ (fun k hk => ?_) ?_ hls
          · simp only [List.flatMap_cons, List.flatMap_nil, List.append_nil, extOk, Bool.and_eq_true]
            exact ⟨⟨hex.2.1.1, hex.2.1.2⟩, trivial⟩
          · simp only [phsOk, Bool.and_eq_true, List.all_eq_true, hsy, Option.any_some, hby, true_and, and_true, List.not_mem_nil, false_implies, implies_true, List.contains_nil, Bool.or_false, Bool.or_eq_true, Bool.not_eq_true', List.contains_iff_mem]
            intro k hk
            rcases List.mem_cons.1 hk with rfl | hk
            · left
              rw [hsx]
              simp [hbx]
            · cases hany : (sops[k]?).any (fun o => !o.big && o.rereads) with
              | false => exact .inl rfl
              | true => exact .inr (hbb k hk hany).2
          · simp only [pickPhs, hsy, pickAll, Option.bind_some, Option.map_some]
          · rcases hc k hk with h | h | h
            · exact .inl (List.mem_cons_of_mem _ h)
            · exact .inl (by rw [h]; simp)
            · exact .inr (by rw [h]; simp)
          · simp only [runPhs, List.all_nil, cond_true, runOps]
            exact hk
      rcases (hcov i hlt).resolve_left hE with h | h
      · exact one wi wj si sj hsi hsj hbj he hb hcov hrun hbi h
      · rw [asunder_swap has] at hrun
        exact one wj wi sj si hsj hsi hbi he' (fun k hk hr => ⟨(hb k hk hr).2, (hb k hk hr).1⟩) (fun k hk => (hcov k hk).imp_right Or.symm) hrun hbj h
theorem draw_any2 (hgl : P.globals.size ≤ nb) {call : CallF} (hcall : CallsOk P nb call) (pf : PF P nt ops sops bef) (hlen : sops.length = ops.size) {K : Fr → Heap → R} {out : Out × Heap} {Q : Exit → Act → World → Prop}
    (hQ : ∀ ι' f' G' a' w', FRel nb ι' f' a'.tmps → a'.tmps.size = nt → a'.defers = ds → Rel nb ι' G' w' → Ext nb ι0 H0 w0 ι' G' w' → K f' G' = some out → Q .normal a' w')
    (hP : ∀ (u : Value) (x : AV) (ι' : Emb) (a' : Act) (w' : World), out.1 = .panic x → VRel nb ι' x u → Rel nb ι' out.2 w' → Ext nb ι0 H0 w0 ι' out.2 w' → a'.defers = ds → KeptOf nb sops fr0 ι' a' → Q (.panic [{ v := u, recovered := false }]) a' w')
    {wi wj : Nat} {si sj : SOper} (hsi : sops[wi]? = some si) (hsj : sops[wj]? = some sj) (hbi : si.big = true) (hbj : sj.big = true) :
    ∀ (fuel : Nat) {phs : List (Nat × List Nat × List Nat)} {phsS : List (SOper × List SOper × List SOper)} {last : Option Nat} {ι : Emb} {f : Fr} {G : Heap} {a : Act} {w : World} {listed : Array Bool} {E : List Nat} {m : Nat → Fr} {ids : Nat → Nat} {obs : Nat → Obj},
    Inv P nb nt ops sops bef fr0 ι0 H0 w0 ds ι f G a w listed E m ids obs → extOk bef E ((phs.flatMap fun q => q.1 :: q.2.2) ++ [wi, wj]) = true → extOk bef E ((phs.flatMap fun q => q.1 :: q.2.2) ++ [wj, wi]) = true →
    (∀ i, (i ∈ E ∨ i ∈ phs.flatMap fun q => q.1 :: q.2.2) → (sops[i]?).any (fun o => !o.big && o.rereads) = true → i ∈ bef.getD wi [] ∧ i ∈ bef.getD wj []) →
    (∀ q ∈ phs, q.1 ∈ bef.getD wi [] ∧ q.1 ∈ bef.getD wj []) → phsOk sops bef E last phs = true → pickPhs sops phs = some phsS →
    (∀ i, i < ops.size → (i ∈ E ∨ i ∈ phs.flatMap fun q => q.1 :: q.2.2) ∨ i = wi ∨ i = wj) →
    runPhs call phsS f G (fun f G => bif asunder si sj f then si.run call f G fun f G => sj.run call f G K else none) = some out → Lite.left listed ops.size ≤ fuel → wpAny P .any ops Q fuel listed a w := by
  intro fuel
  induction fuel with
  | zero =>
    intro phs phsS last ι f G a w listed E m ids obs v he he' hb hw hph hpk hcov hrun hl
    exact absurd (v.dE wi (left_zero hl wi (by rw [← hlen]; exact (List.getElem?_eq_some_iff.1 hsi).1))) (extOk_not _ he wi (by simp))
  | succ fuel ih =>
    intro phs phsS last ι f G a w listed E m ids obs v he he' hb hw hph hpk hcov hrun hl
    cases phs with
    | nil =>
      simp only [pickPhs, Option.some.injEq] at hpk
      subst hpk
      simp only [runPhs] at hrun
      cases has : asunder si sj f with
      | false => rw [has] at hrun; cases hrun
      | true =>
        rw [has] at hrun
        simp only [cond_true] at hrun
        exact draw_pair hgl hcall pf hlen hQ hP hsi hsj hbi hbj (fuel + 1) v (by simpa using he) (by simpa using he') (fun i hi => hb i (.inl hi)) (fun i hi => (hcov i hi).imp_left fun h => h.resolve_right (by simp)) has hrun hl
    | cons q l =>
      obtain ⟨x, cks, sm⟩ := q
      have hx : x ∉ E := extOk_not _ he x (by simp)
      have hxw := hw (x, cks, sm) (by simp)
      refine ⟨fun hready => absurd (v.dE wi (ready_all pf v.size hready wi (by rw [← hlen]; exact (List.getElem?_eq_some_iff.1 hsi).1))) (extOk_not _ he wi (by simp)), fun i hi => ?_⟩
      obtain ⟨h1, o, ho, hdeps⟩ := mem_ready.1 hi
      have hlt : i < ops.size := (Array.getElem?_eq_some_iff.1 ho).1
      have hn : ¬ Lst listed i := by
        have hs : i < listed.size := by rw [v.size]; exact hlt
        unfold Lst
        simp [Array.getD_eq_getD_getElem?, hs] at h1 ⊢
        exact h1
      have hd : ∀ d ∈ edgesOf o, Lst listed d := fun d hd => by
        unfold edgesOf at hd
        obtain ⟨e, hem, rfl⟩ := List.mem_map.1 hd
        obtain ⟨h2, h3⟩ := List.mem_filter.1 hem
        exact hdeps e (by simpa using h2) h3
      have hls : Lite.left (listed.setIfInBounds i true) ops.size ≤ fuel := by
        have := left_set hlt v.size hn; omega
      by_cases hE : i ∈ E
      · exact v.carry hgl pf ho hE hd hn fun ι' a' w' v' => ih v' he he' hb hw hph hpk hcov hrun hls
      · have hbE : ∀ j ∈ bef.getD i [], j ∈ E := fun j hj => v.dE j (before_done pf v.closed i o ho hd j hj)
        have hrem := (hcov i hlt)
        have hnot : ∀ j ∈ ((x, cks, sm) :: l).flatMap fun q => q.1 :: q.2.2, j ∉ E := fun j hj => extOk_not _ he j (List.mem_append_left _ hj)
        simp only [phsOk, Bool.and_eq_true, List.all_eq_true, List.contains_iff_mem] at hph
        obtain ⟨⟨⟨⟨⟨p1, p2⟩, p3⟩, p4⟩, p5⟩, p6⟩ := hph
        obtain rfl : i = x := by
          rcases hrem with (h | h) | h | h
          · exact absurd h hE
          · simp only [List.flatMap_cons, List.cons_append, List.mem_cons, List.mem_append] at h
            rcases h with h | h | h
            · exact h
            · exact absurd (hbE x (p5 i h).2) hx
            · obtain ⟨j, hj, hjn⟩ := phs_wait l p6 hx (fun j hj => hnot j (by simp only [List.flatMap_cons]; exact List.mem_append_right _ hj)) i h
              exact absurd (hbE j hj) hjn
          · subst h; exact absurd (hbE x hxw.1) hx
          · subst h; exact absurd (hbE x hxw.2) hx
        simp only [pickPhs, Option.bind_eq_some_iff, Option.map_eq_some_iff] at hpk
        obtain ⟨s, hs, cs, hcs, ss, hss, ls, hls', rfl⟩ := hpk
        obtain ⟨s', hs', hsl⟩ := pf.so i o ho
        obtain rfl : s' = s := by rw [hs] at hs'; simpa using hs'.symm
        simp only [runPhs] at hrun
        have hbl := before_done pf v.closed i o ho hd
        refine v.write hgl hcall pf ho hs hsl hE hd hrun (fun f' G' hk j hj hjl sj q hsj hq hqr => ?_) (fun ι' f' G' a' w' v' hk => ?_) (fun u x ι' w' h1 h2 h3 h4 h5 => hP u x ι' a w' h1 h2 h3 h4 v.defers h5)
        · have hcks : cs.all (fun c => c.again f' G') = true := by
            cases hb : cs.all (fun c => c.again f' G') with
            | true => rfl
            | false => rw [hb] at hk; cases hk
          have hjb : j ∉ bef.getD i [] := fun e => hjl (hbl j e)
          have hjc : j ∈ cks := by
            have := p3 j hj
            rw [hsj] at this
            simp only [Option.any_some, Bool.or_eq_true, Bool.not_eq_true', Bool.and_eq_false_iff, Bool.not_eq_false', List.contains_iff_mem] at this
            rcases this with (h | h) | h
            · have hbig : sj.big = false := by unfold SOper.big; rw [hq]
              have hrr : sj.rereads = true := by unfold SOper.rereads; rw [hq]; exact hqr
              rcases h with h | h
              · rw [hbig] at h; cases h
              · rw [hrr] at h; cases h
            · exact absurd h hjb
            · exact h
          have hpick : ∀ (l : List Nat) (ls : List SOper), pickAll sops l = some ls → ∀ j ∈ l, ∀ sj, sops[j]? = some sj → sj ∈ ls := by
            intro l
            induction l with
            | nil => intro _ _ j hj; cases hj
            | cons k l ihl =>
              intro ls hp j hj sj hsj
              simp only [pickAll, Option.bind_eq_some_iff, Option.map_eq_some_iff] at hp
              obtain ⟨sk, hsk, ls', hls', rfl⟩ := hp
              rcases List.mem_cons.1 hj with rfl | hj
              · rw [hsk] at hsj; simp only [Option.some.injEq] at hsj; subst hsj; simp
              · exact List.mem_cons_of_mem _ (ihl ls' hls' j hj sj hsj)
          refine ⟨List.all_eq_true.1 hcks sj (hpick cks cs hcs j hjc sj hsj), fun t ht k sk hsk hkd => ?_⟩
          have h4 := p4 j hjc
          rw [hsj] at h4
          simp only [Option.any_some, Bool.and_eq_true, List.all_eq_true, List.mem_range] at h4
          have := h4.2.2 k (List.getElem?_eq_some_iff.1 hsk).1
          rw [hsk] at this
          simp only [Option.bind_some, hkd] at this
          simp only [Bool.or_eq_true, Bool.not_eq_true', List.contains_iff_mem] at this
          rcases this with h | h
          · rw [List.contains_iff_mem.2 ht] at h; cases h
          · exact h
        · have hcks : cs.all (fun c => c.again f' G') = true := by
            cases hb : cs.all (fun c => c.again f' G') with
            | true => rfl
            | false => rw [hb] at hk; cases hk
          rw [hcks] at hk
          simp only [cond_true] at hk
          have ha : extOk bef (i :: E) (sm ++ ((l.flatMap fun q => q.1 :: q.2.2) ++ [wi, wj])) = true := by
            simp only [List.flatMap_cons, List.cons_append, extOk, Bool.and_eq_true, List.append_assoc] at he
            exact he.2
          have hb' : extOk bef (i :: E) (sm ++ ((l.flatMap fun q => q.1 :: q.2.2) ++ [wj, wi])) = true := by
            simp only [List.flatMap_cons, List.cons_append, extOk, Bool.and_eq_true, List.append_assoc] at he'
            exact he'.2
          obtain ⟨f2, G2, m2, ids2, obs2, v2, hk2, he2⟩ := Inv.takeAll pf sm v' ha (fun j hj sj hsj => by
            have := (p5 j hj).1
            rw [hsj] at this
            simpa using this) hss hk
          obtain ⟨_, _, _, _, _, _, _, he3⟩ := Inv.takeAll pf sm v' hb' (fun j hj sj hsj => by
            have := (p5 j hj).1
            rw [hsj] at this
            simpa using this) hss hk
          have sub : ∀ j, (j ∈ sm.reverse ++ i :: E ∨ j ∈ l.flatMap fun q => q.1 :: q.2.2) ↔ (j ∈ E ∨ j ∈ ((i, cks, sm) :: l).flatMap fun q => q.1 :: q.2.2) := fun j => by
            simp only [List.flatMap_cons, List.cons_append, List.mem_cons, List.mem_append, List.mem_reverse]
            grind
          refine ih v2 he2 he3 (fun j hj => hb j ((sub j).1 hj)) (fun q hq => hw q (List.mem_cons_of_mem _ hq)) p6 hls' (fun j hj => (hcov j hj).imp_left (sub j).2) hk2 hls
end Go.Lite

/-
  What was made, told as content that will not change.
-/
namespace Go.Lite
open Go
variable {nb : NB} {ι : Emb} {H : Heap} {w : World}
def ShutsOk (nb : NB) (f : AV → Heap → Option (AV × Heap)) : Prop :=
  ∀ (x : AV) (H : Heap) (y : AV) (H' : Heap) (ι : Emb) (w : World) (v : Value), f x H = some (y, H') → VRel nb ι x v → Rel nb ι H w → ∃ ι', Rel nb ι' H' w ∧ Ext nb ι H w ι' H' w ∧ VRel nb ι' y v ∧ y.pure = true
theorem mapHM_sound {f : AV → Heap → Option (AV × Heap)} (hf : ShutsOk nb f) : ∀ (xs : List AV) (H : Heap) (ys : List AV) (H' : Heap) (ι : Emb) (w : World) (vs : List Value), mapHM f xs H = some (ys, H') → VRels nb ι xs vs → Rel nb ι H w →
    ∃ ι', Rel nb ι' H' w ∧ Ext nb ι H w ι' H' w ∧ VRels nb ι' ys vs ∧ pures ys = true
  | [], H, ys, H', ι, w, vs, h, hv, r => by
    simp only [mapHM, Option.some.injEq, Prod.mk.injEq] at h
    obtain ⟨rfl, rfl⟩ := h
    exact ⟨ι, r, Ext.refl, hv, rfl⟩
  | x :: xs, H, ys, H', ι, w, vs, h, hv, r => by
    simp only [mapHM, Option.bind_eq_some_iff, Option.map_eq_some_iff, Prod.mk.injEq] at h
    obtain ⟨⟨y, H1⟩, h1, ⟨zs, H2⟩, h2, rfl, rfl⟩ := h
    simp only [VRels] at hv
    obtain ⟨u, us, rfl, hu, hus⟩ := hv
    obtain ⟨ι1, r1, e1, v1, p1⟩ := hf x H y H1 ι w u h1 hu r
    obtain ⟨ι2, r2, e2, v2, p2⟩ := mapHM_sound hf xs H1 zs H2 ι1 w us h2 (hus.mono e1.le) r1
    refine ⟨ι2, r2, e1.trans e2, ?_, by simp only [pures, p1, p2, Bool.and_self]⟩
    simp only [VRels]
    exact ⟨u, us, rfl, v1.mono e2.le, v2⟩
theorem shutC_sound : ∀ d, ShutsOk nb (shutC d)
  | 0 => fun x H y H' ι w v h hv r => by
    simp only [shutC, Option.map_eq_some_iff, Prod.mk.injEq] at h
    obtain ⟨z, hz, rfl, rfl⟩ := h
    obtain ⟨g1, g2⟩ := canon_sound hz hv
    exact ⟨ι, r, Ext.refl, g1, g2⟩
  | d + 1 => fun x H y H' ι w v h hv r => by
    simp only [shutC] at h
    split at h
    · rename_i k o n c
      unfold shutRow at h
      split at h
      case h_2 => cases h
      rename_i cs es fz ty hg
      split at h
      case isFalse => cases h
      rename_i hc
      obtain ⟨hc1, hc2⟩ := hc
      simp only [Option.map_eq_some_iff, Prod.mk.injEq] at h
      obtain ⟨⟨zs, H2⟩, hz, rfl, rfl⟩ := h
      have hv' := hv
      simp only [VRel, locOf] at hv
      obtain ⟨l, cap, hl, rfl, hn, hcap⟩ := hv
      obtain ⟨r1, e1, f1⟩ := r.settle hl hg
      have hld : H.ldn (.new k) o (n * c.es) = some ((cs.drop o).take (n * c.es)) := by
        simp only [Heap.ldn, Heap.cells, hg, Obj.cells, Option.bind_some, hc1, if_true]
      obtain ⟨_, vs, hvl, hrange, hvs⟩ := ldn_sound (p := .new k) r hl hld
      obtain ⟨ι2, r2, e2, v2, p2⟩ := mapHM_sound (shutC_sound d) _ _ _ _ _ w vs hz (hvs.mono e1.le) r1
      refine ⟨ι2, r2, e1.trans e2, VRel.L (f := c.full 0 && Nat.beq n 0) (es := c.es) (cs := zs) (fun h0 h1 => by subst h0; simp [h1]) ?_, L_pure⟩
      · simp only [VRel]
        have hzl : zs.length = n * c.es := by rw [← v2.length]; exact hvl
        refine ⟨hzl, _, cap, rfl, hn, fun hf => ?_, (fun e => by cases e), fun hn0 => ?_⟩
        · simp only [Bool.and_eq_true] at hf
          have hn0 := Nat.eq_of_beq_eq_true hf.2
          subst hn0
          cases c with
          | fix c0 e0 =>
            simp only [capRel] at hcap
            simp only [Cap.full] at hf
            rw [hcap]
            exact Nat.eq_of_beq_eq_true hf.1
          | gro e0 => simp [Cap.full] at hf
        · refine ⟨l.blk, l.off + o, vs, rfl, VRels.pure zs vs p2 v2, cellsAt w l.blk, e2.le.fz _ _ f1, fun i u hu => ?_⟩
          rw [← cellsAt_cell]
          exact hrange i u hu
    · simp only [Option.map_eq_some_iff, Prod.mk.injEq] at h
      obtain ⟨z, hz, rfl, rfl⟩ := h
      obtain ⟨g1, g2⟩ := canon_sound hz hv
      exact ⟨ι, r, Ext.refl, g1, g2⟩
theorem shutA_sound : ShutsOk nb shutA := fun x H y H' ι w v h hv r => by
  unfold shutA at h
  split at h
  · simp only [Option.map_eq_some_iff, Prod.mk.injEq] at h
    obtain ⟨⟨zs, H2⟩, hz, rfl, rfl⟩ := h
    simp only [VRel] at hv
    obtain ⟨l, rfl, hl⟩ := hv
    obtain ⟨ι1, r1, e1, v1, p1⟩ := mapHM_sound (shutC_sound 2048) _ _ _ _ _ w _ hz hl r
    exact ⟨ι1, r1, e1, by simp only [VRel]; exact ⟨l, rfl, v1⟩, p1⟩
  · simp only [Option.map_eq_some_iff, Prod.mk.injEq] at h
    obtain ⟨⟨zs, H2⟩, hz, rfl, rfl⟩ := h
    simp only [VRel] at hv
    obtain ⟨l, rfl, hl⟩ := hv
    obtain ⟨ι1, r1, e1, v1, p1⟩ := mapHM_sound (shutC_sound 2048) _ _ _ _ _ w _ hz hl r
    exact ⟨ι1, r1, e1, by simp only [VRel]; exact ⟨l, rfl, v1⟩, p1⟩
  · exact shutC_sound 2048 x H y H' ι w v h hv r
theorem shutV_sound : ShutsOk nb shutV := fun x H y H' ι w v h hv r => by
  unfold shutV at h
  split at h
  · simp only [Option.map_eq_some_iff, Prod.mk.injEq] at h
    obtain ⟨⟨zs, H2⟩, hz, rfl, rfl⟩ := h
    simp only [VRel] at hv
    obtain ⟨l, rfl, hl⟩ := hv
    obtain ⟨ι1, r1, e1, v1, p1⟩ := mapHM_sound shutA_sound _ _ _ _ _ w _ hz hl r
    exact ⟨ι1, r1, e1, by simp only [VRel]; exact ⟨l, rfl, v1⟩, p1⟩
  · simp only [Option.map_eq_some_iff, Prod.mk.injEq] at h
    obtain ⟨⟨z, H2⟩, hz, rfl, rfl⟩ := h
    simp only [VRel] at hv
    obtain ⟨u, rfl, hu⟩ := hv
    obtain ⟨ι1, r1, e1, v1, p1⟩ := shutA_sound _ _ _ _ _ w _ hz hu r
    exact ⟨ι1, r1, e1, by simp only [VRel]; exact ⟨u, rfl, v1⟩, p1⟩
  · exact shutA_sound x H y H' ι w v h hv r
theorem softs_sound : ∀ (xs : List AV) (H : Heap) (ys : List AV) (H' : Heap) (ι : Emb) (w : World) (vs : List Value), mapHM softV xs H = some (ys, H') → VRels nb ι xs vs → Rel nb ι H w →
    ∃ ι', Rel nb ι' H' w ∧ Ext nb ι H w ι' H' w ∧ VRels nb ι' ys vs
  | [], H, ys, H', ι, w, vs, h, hv, r => by
    simp only [mapHM, Option.some.injEq, Prod.mk.injEq] at h
    obtain ⟨rfl, rfl⟩ := h
    exact ⟨ι, r, Ext.refl, hv⟩
  | x :: xs, H, ys, H', ι, w, vs, h, hv, r => by
    simp only [mapHM, Option.bind_eq_some_iff, Option.map_eq_some_iff, Prod.mk.injEq] at h
    obtain ⟨⟨y, H1⟩, h1, ⟨zs, H2⟩, h2, rfl, rfl⟩ := h
    simp only [VRels] at hv
    obtain ⟨u, us, rfl, hu, hus⟩ := hv
    obtain ⟨ι1, r1, e1, v1⟩ : ∃ ι', Rel nb ι' H1 w ∧ Ext nb ι H w ι' H1 w ∧ VRel nb ι' y u := by
      unfold softV at h1
      split at h1
      · rename_i q hq
        obtain ⟨y', H1'⟩ := q
        simp only [Option.some.injEq, Prod.mk.injEq] at h1
        obtain ⟨rfl, rfl⟩ := h1
        obtain ⟨ι1, r1, e1, v1, _⟩ := shutV_sound x H y' H1' ι w u hq hu r
        exact ⟨ι1, r1, e1, v1⟩
      · simp only [Option.some.injEq, Prod.mk.injEq] at h1
        obtain ⟨rfl, rfl⟩ := h1
        exact ⟨ι, r, Ext.refl, hu⟩
    obtain ⟨ι2, r2, e2, v2⟩ := softs_sound xs H1 zs H2 ι1 w us h2 (hus.mono e1.le) r1
    refine ⟨ι2, r2, e1.trans e2, ?_⟩
    simp only [VRels]
    exact ⟨u, us, rfl, v1.mono e2.le, v2⟩
theorem Rel.bareH (r : Rel nb ι H w) : Rel nb ι.bare H.bare w where
  nbw := r.nbw
  inv := r.inv
  old := r.old
  row k l cs es fz ty h := by cases h
  iter k l s pos h := by cases h
  dom k l h := by cases h
  inj k k' l l' o o' h := by cases h
  lt k o h := by simp [Heap.bare, T.get_nil] at h
  fz b c h := ⟨(r.fz b c h).1, (r.fz b c h).2.1, fun k l o h => by cases h⟩
theorem Rel.behind {ι' : Emb} {H' : Heap} {w' : World} (r : Rel nb ι H w) (r' : Rel nb ι' H' w') (e : Ext nb ι.bare H.bare w ι' H' w') :
    Rel nb ⟨ι.map, ι'.fz⟩ H w' ∧ Ext nb ι H w ⟨ι.map, ι'.fz⟩ H w' := by
  have hle : ι.le ⟨ι.map, ι'.fz⟩ := ⟨fun _ _ h => h, e.le.fz⟩
  have hk : ∀ b, b < w.heap.size → w'.heap[b]? = w.heap[b]? := fun b hb => e.kept b hb (.inr fun k l h => by cases h)
  have hcell : ∀ b i v, w.cell? ⟨b, i, none⟩ = some v → w'.cell? ⟨b, i, none⟩ = some v := fun b i v h => by
    rw [cell?_of_heap (hk b (cell_lt h))]; exact h
  refine ⟨⟨Nat.le_trans r.nbw e.size, ?_, ?_, ?_, ?_, r.inj, r.lt, ?_, r'.inv⟩, ⟨hle, e.size, fun b hb _ => hk b hb, fun k l h _ => ⟨k, l, h, rfl⟩, fun _ _ h => .inl h, Nat.le_refl _, fun _ _ _ => rfl, rfl, e.env, ?_⟩⟩
  · intro b bs hb
    refine ⟨(r.old b bs hb).1, fun i x hx => ?_⟩
    obtain ⟨v, hv, hr⟩ := (r.old b bs hb).2 i x hx
    exact ⟨v, hcell _ _ _ hv, hr.mono (Emb.bare_mono hle)⟩
  · intro j q ds es' fz' ty' hj ho
    obtain ⟨h1, h2, h3, h4⟩ := r.row j q ds es' fz' ty' hj ho
    have hlt := (r.dom j q hj).2.1
    refine ⟨fun i x hx => ?_, fun hf i v hv => ?_, fun he i hi => ?_, h4.of_heap (hk _ hlt)⟩
    · obtain ⟨v, hv, hr⟩ := h1 i x hx
      exact ⟨v, hcell _ _ _ hv, hr.mono hle⟩
    · rw [cell?_of_heap (hk _ hlt)] at hv
      rw [frozen?_of_heap (hk _ hlt)]
      exact h2 hf i v hv
    · obtain ⟨v, hv⟩ := h3 he i hi
      exact ⟨v, hcell _ _ _ hv⟩
  · intro j q s pos hj ho
    obtain ⟨h0, b, h1, h2⟩ := r.iter j q s pos hj ho
    exact ⟨h0, b, h1, by rw [hk _ (r.dom j q hj).2.1]; exact h2⟩
  · intro j q hj
    obtain ⟨h1, h2, h3⟩ := r.dom j q hj
    exact ⟨h1, Nat.lt_of_lt_of_le h2 e.size, h3⟩
  · intro b c hb
    obtain ⟨g1, g2, g3⟩ := r'.fz b c hb
    refine ⟨g1, g2, fun j q o hj ho hq => ?_⟩
    rcases e.frz b c hb with h | h | ⟨k, l, h, _⟩
    · exact (r.fz b c h).2.2 j q o hj ho hq
    · have := (r.dom j q hj).2.1
      omega
    · cases h
  · intro b c hb
    rcases e.frz b c hb with h | h | ⟨k, l, h, _⟩
    · exact .inl h
    · exact .inr (.inl h)
    · cases h
end Go.Lite

/-
  The interpreter's word on code, on functions.
-/
namespace Go.Lite
open Go
variable {P : Program} {nb : NB} {ι : Emb} {H : Heap} {w : World} {fr : Fr} {a : Act} {nt : Nat}
/-! ### The facts that are looked at -/
theorem slimOpers_get {ops : Array Oper} : ∀ {l : List Oper} {qs : List SOper}, slimOpers P nt ops l = some qs → qs.length = l.length ∧ (∀ (i : Nat) (o : Oper), l[i]? = some o → ∃ s, qs[i]? = some s ∧ slimOper P nt ops o = some s) ∧ (∀ (i : Nat) (s : SOper), qs[i]? = some s → ∃ o, l[i]? = some o ∧ slimOper P nt ops o = some s)
  | [], qs, h => by simp [slimOpers] at h; subst h; simp
  | o :: l, qs, h => by
    simp only [slimOpers, Option.bind_eq_some_iff, Option.map_eq_some_iff] at h
    obtain ⟨q, hq, rs, hr, rfl⟩ := h
    obtain ⟨h1, h2, h3⟩ := slimOpers_get hr
    refine ⟨by simp [h1], fun i o' ho => ?_, fun i s hs => ?_⟩
    · cases i with
      | zero => simp at ho; subst ho; exact ⟨q, rfl, hq⟩
      | succ i => simpa using h2 i o' (by simpa using ho)
    · cases i with
      | zero => simp at hs; subst hs; exact ⟨o, rfl, hq⟩
      | succ i => simpa using h3 i s (by simpa using hs)
theorem planOk_PF {ops : Array Oper} {sops : List SOper} {bef : List (List Nat)} {p : Plan} (hs : slimOpers P nt ops ops.toList = some sops) (h : planOk ops.toList sops bef p = true) :
    PF P nt ops sops bef ∧ sops.length = ops.size ∧ (∀ i, i < ops.size → i ∈ p.order) ∧ extOk bef [] p.order = true ∧ (∀ i ∈ p.pre, ∀ s, sops[i]? = some s → s.big = false) ∧ phsOk sops bef p.pre.reverse none p.phs = true := by
  obtain ⟨hl, g1, g2⟩ := slimOpers_get hs
  simp only [planOk, Bool.and_eq_true, List.all_eq_true, List.mem_range, decide_eq_true_eq, List.contains_iff_mem] at h
  obtain ⟨⟨⟨⟨⟨⟨⟨⟨c0, c1⟩, c2⟩, c3⟩, c4⟩, c5⟩, c6⟩, c7⟩, c8⟩ := h
  have hsz : sops.length = ops.size := by simpa using hl
  refine ⟨⟨fun i o ho => g1 i o (by simpa using ho), fun i s hsi => ?_, fun i o ho => ?_, fun i o ho j hj => ?_, fun i j s sj d hsi hsj hij hd => ?_⟩, hsz, fun i hi => c4 i (by omega), c6, fun i hi s hsi => ?_, c8⟩
  · obtain ⟨o, ho, h1⟩ := g2 i s hsi
    exact ⟨o, by simpa using ho, h1⟩
  · have hlt := (Array.getElem?_eq_some_iff.1 ho).1
    have := c1 i (by omega)
    have he : ops.toList.getD i default = o := by simp [List.getD_eq_getElem?_getD, ho]
    rw [he] at this
    exact this
  · have hlt := (Array.getElem?_eq_some_iff.1 ho).1
    have := c2 i (by omega) j hj
    have he : ops.toList.getD i default = o := by simp [List.getD_eq_getElem?_getD, ho]
    rw [he] at this
    simp only [List.any_eq_true, Bool.or_eq_true, beq_iff_eq, List.contains_iff_mem] at this
    exact this
  · have hi := (List.getElem?_eq_some_iff.1 hsi).1
    have hj := (List.getElem?_eq_some_iff.1 hsj).1
    have := c3 i hi j hj
    simp only [Bool.or_eq_true, beq_iff_eq] at this
    have := this.resolve_left hij
    rw [hsj, hsi] at this
    simp only [Option.bind_some, hd, Option.any_some, Bool.and_eq_true, bne_iff_ne, ne_eq, Bool.or_eq_true, Bool.not_eq_true', List.contains_iff_mem] at this
    refine ⟨this.1, fun hdl => ?_⟩
    rcases this.2 with (h | h) | h
    · rw [List.contains_iff_mem.2 hdl] at h; cases h
    · exact .inl h
    · exact .inr h
  · have := c7 i hi
    rw [hsi] at this
    simpa using this
theorem frameOk_PF {ops : Array Oper} {sops : List SOper} {bef : List (List Nat)} (hs : slimOpers P nt ops ops.toList = some sops) (h : frameOk ops.toList sops bef = true) :
    PF P nt ops sops bef ∧ sops.length = ops.size := by
  obtain ⟨hl, g1, g2⟩ := slimOpers_get hs
  simp only [frameOk, Bool.and_eq_true, List.all_eq_true, List.mem_range, decide_eq_true_eq, List.contains_iff_mem] at h
  obtain ⟨⟨⟨c0, c1⟩, c2⟩, c3⟩ := h
  have hsz : sops.length = ops.size := by simpa using hl
  refine ⟨⟨fun i o ho => g1 i o (by simpa using ho), fun i s hsi => ?_, fun i o ho => ?_, fun i o ho j hj => ?_, fun i j s sj d hsi hsj hij hd => ?_⟩, hsz⟩
  · obtain ⟨o, ho, h1⟩ := g2 i s hsi
    exact ⟨o, by simpa using ho, h1⟩
  · have hlt := (Array.getElem?_eq_some_iff.1 ho).1
    have := c1 i (by omega)
    have he : ops.toList.getD i default = o := by simp [List.getD_eq_getElem?_getD, ho]
    rw [he] at this
    exact this
  · have hlt := (Array.getElem?_eq_some_iff.1 ho).1
    have := c2 i (by omega) j hj
    have he : ops.toList.getD i default = o := by simp [List.getD_eq_getElem?_getD, ho]
    rw [he] at this
    simp only [List.any_eq_true, Bool.or_eq_true, beq_iff_eq, List.contains_iff_mem] at this
    exact this
  · have hi := (List.getElem?_eq_some_iff.1 hsi).1
    have hj := (List.getElem?_eq_some_iff.1 hsj).1
    have := c3 i hi j hj
    simp only [Bool.or_eq_true, beq_iff_eq] at this
    have := this.resolve_left hij
    rw [hsj, hsi] at this
    simp only [Option.bind_some, hd, Option.any_some, Bool.and_eq_true, bne_iff_ne, ne_eq, Bool.or_eq_true, Bool.not_eq_true', List.contains_iff_mem] at this
    refine ⟨this.1, fun hdl => ?_⟩
    rcases this.2 with (h | h) | h
    · rw [List.contains_iff_mem.2 hdl] at h; cases h
    · exact .inl h
    · exact .inr h
/-! ### Code -/
def CodePost (nb : NB) (nt : Nat) (ι : Emb) (H : Heap) (w : World) (ds : List Deferred) (K : Ex → Fr → Heap → R) (out : Out × Heap) : Exit → Act → World → Prop
  | .normal, a', w' => ∃ ι' fr' H', FRel nb ι' fr' a'.tmps ∧ a'.tmps.size = nt ∧ a'.defers = ds ∧ Rel nb ι' H' w' ∧ Ext nb ι H w ι' H' w' ∧ K .normal fr' H' = some out
  | .exit id, a', w' => ∃ ι' fr' H', FRel nb ι' fr' a'.tmps ∧ a'.tmps.size = nt ∧ a'.defers = ds ∧ Rel nb ι' H' w' ∧ Ext nb ι H w ι' H' w' ∧ K (.exit id) fr' H' = some out
  | .ret, a', w' => ∃ ι' fr' H', FRel nb ι' fr' a'.tmps ∧ a'.tmps.size = nt ∧ a'.defers = ds ∧ Rel nb ι' H' w' ∧ Ext nb ι H w ι' H' w' ∧ K .ret fr' H' = some out
  | .panic c, a', w' => ∃ ι' x v, out.1 = .panic x ∧ c = [{ v, recovered := false }] ∧ VRel nb ι' x v ∧ Rel nb ι' out.2 w' ∧ Ext nb ι H w ι' out.2 w' ∧ a'.defers = ds
  | _, _, _ => False
theorem CodePost.ext {nb : NB} {nt : Nat} {ι ι1 : Emb} {H H1 : Heap} {w w1 : World} {ds : List Deferred} {K : Ex → Fr → Heap → R} {out : Out × Heap} (h : Ext nb ι H w ι1 H1 w1) {e : Exit} {a' : Act} {w' : World}
    (hp : CodePost nb nt ι1 H1 w1 ds K out e a' w') : CodePost nb nt ι H w ds K out e a' w' := by
  cases e <;> simp only [CodePost] at hp ⊢
  case panic c =>
    obtain ⟨ι', x, v, g1, g2, g3, g4, g5, g6⟩ := hp
    exact ⟨ι', x, v, g1, g2, g3, g4, h.trans g5, g6⟩
  all_goals (
    obtain ⟨ι', fr', H', g1, g2, g3, g4, g5, g6⟩ := hp
    exact ⟨ι', fr', H', g1, g2, g3, g4, h.trans g5, g6⟩)
theorem ops_sound (hgl : P.globals.size ≤ nb) {call : CallF} (hcall : CallsOk P nb call) {ops : Array Oper} {ds : List Deferred} {K : Ex → Fr → Heap → R} {out : Out × Heap} {ι0 : Emb} {H0 : Heap} {w0 : World} :
    ∀ (l : List Nat) {ls : List Oper} {qs : List SOper} {ι : Emb} {fr : Fr} {H : Heap} {a : Act} {w : World}, (∀ (j : Nat) (i : Nat), l[j]? = some i → ∃ o, ls[j]? = some o ∧ ops[i]? = some o) → l.length = ls.length → slimOpers P nt ops ls = some qs →
    FRel nb ι fr a.tmps → a.tmps.size = nt → a.defers = ds → Rel nb ι H w → Ext nb ι0 H0 w0 ι H w → runOps call qs fr H (K .normal) = some out → wpOps P ops (CodePost nb nt ι0 H0 w0 ds K out) l a w
  | [], ls, qs, ι, fr, H, a, w, hl, hlen, hs, hf, hn, hd, r, hx, h => by
    cases ls with
    | cons o ls => simp at hlen
    | nil =>
      simp only [slimOpers, Option.some.injEq] at hs
      subst hs
      exact ⟨ι, fr, H, hf, hn, hd, r, hx, h⟩
  | i :: l, ls, qs, ι, fr, H, a, w, hl, hlen, hs, hf, hn, hd, r, hx, h => by
    cases ls with
    | nil => simp at hlen
    | cons o ls =>
      obtain ⟨o', ho', hoi⟩ := hl 0 i rfl
      simp only [List.getElem?_cons_zero, Option.some.injEq] at ho'
      subst ho'
      simp only [slimOpers, Option.bind_eq_some_iff, Option.map_eq_some_iff] at hs
      obtain ⟨q, hq, rs, hr, rfl⟩ := hs
      obtain ⟨e1, e2, e3, e4⟩ := slimOper_inv hq
      have ih := fun {ι : Emb} {fr : Fr} {H : Heap} {a : Act} {w : World} => ops_sound hgl hcall (ops := ops) (ds := ds) (K := K) (out := out) (ι0 := ι0) (H0 := H0) (w0 := w0) l (ls := ls) (qs := rs) (ι := ι) (fr := fr) (H := H) (a := a) (w := w)
        (fun j k hj => hl (j + 1) k (by simpa using hj)) (by simpa using hlen) hr
      simp only [runOps] at h
      obtain ⟨b, hb, h⟩ := Option.bind_eq_some_iff.1 h
      have hw := wanted_sound hf hn e3 hb
      have hput : ∀ (ι' : Emb) (x : AV) (u : Value), ι.le ι' → VRel nb ι' x u → FRel nb ι' (fr.put q.dst x) (a.put o.dst u).tmps := by
        intro ι' x u hle hu
        rw [e1]
        cases hdo : o.dst with
        | none => exact hf.mono hle
        | some d => exact (hf.mono hle).set (by rw [hn]; exact e2 d hdo) hu
      simp only [wpOps, hoi]
      cases b with
      | false =>
        simp only [cond_false] at h
        rw [if_neg (by rw [hw]; decide)]
        exact ih (hput ι skipped undef (Emb.le_refl ι) (by simp [skipped, VRel, VRels, undef])) (by rw [put_size]; exact hn) (by rw [put_defers']; exact hd) r hx h
      | true =>
        simp only [cond_true] at h
        rw [if_pos hw]
        left
        refine sop_step hcall hgl hf r e4 h (fun u x ι' H' w' hu hr' hext hk => ?_) (fun u x ι' w' ho hu hr' hext => ?_)
        · exact ih (hput ι' x u hext.le hu) (by rw [put_size]; exact hn) (by rw [put_defers']; exact hd) hr' (hx.trans hext) hk
        · exact ⟨ι', x, u, ho, rfl, hu, hr', hx.trans hext, hd⟩
theorem draw_gen (hgl : P.globals.size ≤ nb) (hm : P.follows .mixedOrders = true) {call : CallF} (hcall : CallsOk P nb call) {ops : Array Oper} {id : Nat} {pre : List SOper} {phs : List (SOper × List SOper × List SOper)}
    (hs : slimDraw P nt ops = some (.draw pre phs)) {K : Ex → Fr → Heap → R} {out : Out × Heap} (hf : FRel nb ι fr a.tmps) (hn : a.tmps.size = nt) (r : Rel nb ι H w)
    (h : runOps call pre fr H (fun fr H => runPhs call phs fr H (K .normal)) = some out) {Q : Exit → Act → World → Prop}
    (hQ : ∀ (ι' : Emb) (f' : Fr) (G' : Heap) (a' : Act) (w' : World), FRel nb ι' f' a'.tmps → a'.tmps.size = nt → a'.defers = a.defers → Rel nb ι' G' w' → Ext nb ι H w ι' G' w' → K .normal f' G' = some out → Q .normal a' w')
    (hP : ∀ (u : Value) (x : AV) (ι' : Emb) (a' : Act) (w' : World), out.1 = .panic x → VRel nb ι' x u → Rel nb ι' out.2 w' → Ext nb ι H w ι' out.2 w' → a'.defers = a.defers → (∀ t, (∀ o ∈ ops.toList, o.dst ≠ some t) → VRel nb ι' (fr t) (a'.tmps.getD t undef)) → Q (.panic [{ v := u, recovered := false }]) a' w') :
    (Code.region id ops true).wp P Q a w := by
  simp only [slimDraw, Option.bind_eq_some_iff] at hs
  obtain ⟨sops, hso, hs⟩ := hs
  cases hpl : planOk ops.toList sops (befOf ops.toList []) (planOf sops (befOf ops.toList [])) with
  | false =>
    rw [hpl] at hs
    simp only [cond_false, Option.bind_eq_some_iff] at hs
    obtain ⟨q, _, hs⟩ := hs
    cases hpl2 : planOk2 ops.toList sops (befOf ops.toList []) ⟨(planOf sops (befOf ops.toList [])).pre, q.1⟩ q.2.1 q.2.2 with
    | false => rw [hpl2] at hs; cases hs
    | true =>
      rw [hpl2] at hs
      simp only [cond_true, Option.bind_eq_some_iff, Option.map_eq_some_iff] at hs
      obtain ⟨pre', _, phs', _, a', _, b', _, heq⟩ := hs
      cases heq
  | true =>
    rw [hpl] at hs
    simp only [cond_true, Option.bind_eq_some_iff, Option.map_eq_some_iff] at hs
    obtain ⟨pre', hpre, phs', hphs, heq⟩ := hs
    simp only [SCode.draw.injEq] at heq
    obtain ⟨rfl, rfl⟩ := heq
    obtain ⟨pf, hlen, hcov, hext, hpre0, hph⟩ := planOk_PF hso hpl
    generalize planOf sops (befOf ops.toList []) = pln at *
    generalize befOf ops.toList [] = bef at *
    refine wp_region_any hm ?_
    have hh : ({ w with drawn := w.drawn + 1 } : World).heap = w.heap := rfl
    have hw' : Rel nb ι H { w with drawn := w.drawn + 1 } := r.same hh
    have hx' : Ext nb ι H w ι H { w with drawn := w.drawn + 1 } := Ext.same rfl
    have hnl : ∀ i, ¬ Lst (Array.replicate ops.size false) i := fun i h => by
      unfold Lst at h
      by_cases hi : i < ops.size
      · simp [Array.getD_eq_getD_getElem?, hi] at h
      · simp [Array.getD_eq_getD_getElem?, hi] at h
    have v0 : Inv P nb nt ops sops bef fr ι H w a.defers ι fr H a { w with drawn := w.drawn + 1 } (Array.replicate ops.size false) [] (fun _ => fr) (fun _ => 0) (fun _ => .iter [] 0) := by
      refine ⟨by simp, fun i h => absurd h (hnl i), fun i h => (by cases h), fun i o _ h => absurd h (hnl i), fun i h => (by cases h), fun t => ?_, hn, rfl, fun t _ => rfl, hw', hx', fun i h => (by cases h), fun i h => (by cases h)⟩
      unfold view
      rw [if_neg]
      · exact hf t
      · rintro ⟨i, s, h, _⟩
        exact hnl i h
    have hext' : extOk bef [] (pln.pre ++ pln.phs.flatMap fun q => q.1 :: q.2.2) = true := hext
    obtain ⟨f', G', m', ids', obs', v1, hk, he1⟩ := Inv.takeAll pf pln.pre v0 hext' hpre0 hpre h
    refine draw_any hgl hcall pf hlen (ι0 := ι) (H0 := H) (w0 := w) (ds := a.defers) (fr0 := fr) (K := K .normal) (out := out) hQ
      (fun u x ι' a' w' g1 g2 g3 g4 g5 g6 => hP u x ι' a' w' g1 g2 g3 g4 g5 fun t ht => g6 t fun j s' hs' hd => by
        obtain ⟨o, ho, hso'⟩ := (slimOpers_get hso).2.2 j s' hs'
        exact ht o (List.mem_of_getElem? ho) (by rw [← (slimOper_inv hso').1]; exact hd)) ops.size v1 he1 (by simpa using hph) hphs (fun i hi => ?_) hk ?_
    · have := hcov i hi
      unfold Plan.order at this
      rcases List.mem_append.1 this with h | h
      · exact .inl (List.mem_append_left _ (List.mem_reverse.2 h))
      · exact .inr h
    · unfold Lite.left
      exact Nat.le_trans (List.length_filter_le _ _) (by simp)
theorem draw_sound (hgl : P.globals.size ≤ nb) (hm : P.follows .mixedOrders = true) {call : CallF} (hcall : CallsOk P nb call) {ops : Array Oper} {id : Nat} {pre : List SOper} {phs : List (SOper × List SOper × List SOper)}
    (hs : slimDraw P nt ops = some (.draw pre phs)) {K : Ex → Fr → Heap → R} {out : Out × Heap} (hf : FRel nb ι fr a.tmps) (hn : a.tmps.size = nt) (r : Rel nb ι H w)
    (h : runOps call pre fr H (fun fr H => runPhs call phs fr H (K .normal)) = some out) : (Code.region id ops true).wp P (CodePost nb nt ι H w a.defers K out) a w :=
  draw_gen hgl hm hcall hs hf hn r h (fun ι' f' G' a' w' g1 g2 g3 g4 g5 g6 => ⟨ι', f', G', g1, g2, g3, g4, g5, g6⟩) (fun u x ι' a' w' g1 g2 g3 g4 g5 _ => ⟨ι', x, u, g1, rfl, g2, g3, g4, g5⟩)
theorem draw2_sound (hgl : P.globals.size ≤ nb) (hm : P.follows .mixedOrders = true) {call : CallF} (hcall : CallsOk P nb call) {ops : Array Oper} {id : Nat} {pre : List SOper} {phs : List (SOper × List SOper × List SOper)} {sa sb : SOper}
    (hs : slimDraw P nt ops = some (.draw2 pre phs sa sb)) {K : Ex → Fr → Heap → R} {out : Out × Heap} (hf : FRel nb ι fr a.tmps) (hn : a.tmps.size = nt) (r : Rel nb ι H w)
    (h : runOps call pre fr H (fun fr H => runPhs call phs fr H fun fr H => bif asunder sa sb fr then sa.run call fr H fun fr H => sb.run call fr H (K .normal) else none) = some out) : (Code.region id ops true).wp P (CodePost nb nt ι H w a.defers K out) a w := by
  simp only [slimDraw, Option.bind_eq_some_iff] at hs
  obtain ⟨sops, hso, hs⟩ := hs
  cases hpl : planOk ops.toList sops (befOf ops.toList []) (planOf sops (befOf ops.toList [])) with
  | true =>
    rw [hpl] at hs
    simp only [cond_true, Option.bind_eq_some_iff, Option.map_eq_some_iff] at hs
    obtain ⟨pre', hpre, phs', hphs, heq⟩ := hs
    cases heq
  | false =>
  rw [hpl] at hs
  simp only [cond_false, Option.bind_eq_some_iff] at hs
  obtain ⟨⟨phs1, wi, wj⟩, hsp, hs⟩ := hs
  generalize befOf ops.toList [] = bef at *
  generalize hpn : planOf sops bef = pln at *
  simp only [] at hs
  cases hpl2 : planOk2 ops.toList sops bef ⟨pln.pre, phs1⟩ wi wj with
  | false => rw [hpl2] at hs; cases hs
  | true =>
  rw [hpl2] at hs
  simp only [cond_true, Option.bind_eq_some_iff, Option.map_eq_some_iff] at hs
  obtain ⟨pre', hpre, phs', hphs, a', hsa, b', hsb, heq⟩ := hs
  simp only [SCode.draw2.injEq] at heq
  obtain ⟨rfl, rfl, rfl, rfl⟩ := heq
  simp only [planOk2, Bool.and_eq_true] at hpl2
  obtain ⟨⟨⟨⟨⟨⟨⟨⟨⟨hfr, hcov⟩, hext⟩, hext2⟩, hpre0⟩, hph⟩, hbi⟩, hbj⟩, hw⟩, hb⟩ := hpl2
  obtain ⟨pf, hlen⟩ := frameOk_PF hso hfr
  rw [hsa] at hbi
  rw [hsb] at hbj
  simp only [Option.any_some] at hbi hbj
  refine wp_region_any hm ?_
  have hh : ({ w with drawn := w.drawn + 1 } : World).heap = w.heap := rfl
  have hw' : Rel nb ι H { w with drawn := w.drawn + 1 } := r.same hh
  have hx' : Ext nb ι H w ι H { w with drawn := w.drawn + 1 } := Ext.same rfl
  have hnl : ∀ i, ¬ Lst (Array.replicate ops.size false) i := fun i h => by
    unfold Lst at h
    by_cases hi : i < ops.size
    · simp [Array.getD_eq_getD_getElem?, hi] at h
    · simp [Array.getD_eq_getD_getElem?, hi] at h
  have v0 : Inv P nb nt ops sops bef fr ι H w a.defers ι fr H a { w with drawn := w.drawn + 1 } (Array.replicate ops.size false) [] (fun _ => fr) (fun _ => 0) (fun _ => .iter [] 0) := by
    refine ⟨by simp, fun i h => absurd h (hnl i), fun i h => (by cases h), fun i o _ h => absurd h (hnl i), fun i h => (by cases h), fun t => ?_, hn, rfl, fun t _ => rfl, hw', hx', fun i h => (by cases h), fun i h => (by cases h)⟩
    unfold view
    rw [if_neg]
    · exact hf t
    · rintro ⟨i, s, h, _⟩
      exact hnl i h
  have hext' : extOk bef [] (pln.pre ++ ((phs1.flatMap fun q => q.1 :: q.2.2) ++ [wi, wj])) = true := by rw [← List.append_assoc]; exact hext
  have hext2' : extOk bef [] (pln.pre ++ ((phs1.flatMap fun q => q.1 :: q.2.2) ++ [wj, wi])) = true := by rw [← List.append_assoc]; exact hext2
  have hsm : ∀ i ∈ pln.pre, ∀ s, sops[i]? = some s → s.big = false := fun i hi s hsi => by
    have := List.all_eq_true.1 hpre0 i hi
    rw [hsi] at this
    simpa using this
  obtain ⟨f', G', m', ids', obs', v1, hk, he1⟩ := Inv.takeAll pf pln.pre v0 hext' hsm hpre h
  obtain ⟨_, _, _, _, _, _, _, he2⟩ := Inv.takeAll pf pln.pre v0 hext2' hsm hpre h
  have sub : ∀ i, (i ∈ pln.pre.reverse ++ [] ∨ i ∈ phs1.flatMap fun q => q.1 :: q.2.2) ↔ i ∈ Plan.order ⟨pln.pre, phs1⟩ := fun i => by
    simp only [Plan.order, List.append_nil, List.mem_reverse, List.mem_append]
  refine draw_any2 hgl hcall pf hlen (ι0 := ι) (H0 := H) (w0 := w) (ds := a.defers) (fr0 := fr) (K := K .normal) (out := out) (fun ι' f' G' a' w' g1 g2 g3 g4 g5 g6 => ⟨ι', f', G', g1, g2, g3, g4, g5, g6⟩)
    (fun u x ι' a' w' g1 g2 g3 g4 g5 _ => ⟨ι', x, u, g1, rfl, g2, g3, g4, g5⟩) hsa hsb hbi hbj ops.size (last := none) v1 he1 he2 (fun i hi hr => ?_) (fun q hq => ?_) (by simpa using hph) hphs (fun i hi => ?_) hk ?_
  · have := List.all_eq_true.1 hb i ((sub i).1 hi)
    rw [hr] at this
    simpa using this
  · have := List.all_eq_true.1 hw q hq
    simpa using this
  · have := List.all_eq_true.1 hcov i (List.mem_range.2 (by omega))
    simp only [Bool.or_eq_true, beq_iff_eq, List.contains_iff_mem] at this
    rcases this with (h | h) | h
    · exact .inl ((sub i).2 h)
    · exact .inr (.inl h)
    · exact .inr (.inr h)
  · unfold Lite.left
    exact Nat.le_trans (List.length_filter_le _ _) (by simp)
theorem loop_sound {c : Code} {body : Fr → Heap → (Ex → Fr → Heap → R) → R} {ds : List Deferred} {K : Ex → Fr → Heap → R} {out : Out × Heap}
    (hb : ∀ (K : Ex → Fr → Heap → R) (ι : Emb) (fr : Fr) (H : Heap) (a : Act) (w : World), FRel nb ι fr a.tmps → a.tmps.size = nt → a.defers = ds → Rel nb ι H w → body fr H K = some out → c.wp P (CodePost nb nt ι H w ds K out) a w) :
    ∀ (n : Nat) {ι : Emb} {fr : Fr} {H : Heap} {a : Act} {w : World}, FRel nb ι fr a.tmps → a.tmps.size = nt → a.defers = ds → Rel nb ι H w → loopN body n fr H K = some out →
    (Code.loop c).wp P (CodePost nb nt ι H w ds K out) a w := by
  intro n ι fr H a w hf hn hd r h
  -- the measure is how many rounds are left; it is a ghost of the frame: the rounds are walked one by one
  have key : ∀ (n : Nat) {ι : Emb} {fr : Fr} {H : Heap} {a : Act} {w : World}, FRel nb ι fr a.tmps → a.tmps.size = nt → a.defers = ds → Rel nb ι H w → loopN body n fr H K = some out →
      ∀ (b : Frame) (k : List Item) (cs : List Frame), ∃ e a' w', CodePost nb nt ι H w ds K out e a' w' ∧ Arrives P (lone (b.at a (.code c :: .inLoop c :: k)) cs w) b k cs e a' w' := by
    intro n
    induction n with
    | zero => intro ι fr H a w _ _ _ _ h; cases h
    | succ n ih =>
      intro ι fr H a w hf hn hd r h b k cs
      have h1 := hb (fun e fr' H' => match e with | .normal => loopN body n fr' H' K | e => K e fr' H') ι fr H a w hf hn hd r h
      obtain ⟨e, a1, w1, hq, harr⟩ := h1 b (.inLoop c :: k) cs
      cases e with
      | normal =>
        obtain ⟨ι', fr', H', g1, g2, g3, g4, g5, g6⟩ := hq
        obtain ⟨e2, a2, w2, hq2, harr2⟩ := ih g1 g2 g3 g4 g6 b k cs
        exact ⟨e2, a2, w2, hq2.ext g5, .of_steps (Steps.trans harr (.one step_inLoop)) harr2⟩
      | exit id => exact ⟨.exit id, a1, w1, hq, .pass (x := .inLoop c) rfl (fun _ _ => .inl (by simp)) harr⟩
      | goto l => exact hq.elim
      | ret => exact ⟨.ret, a1, w1, hq, .pass (x := .inLoop c) rfl (fun _ _ => .inl (by simp)) harr⟩
      | panic ch => exact ⟨.panic ch, a1, w1, hq, .pass (x := .inLoop c) rfl (fun _ _ => .inl (by simp)) harr⟩
      | outgrown => exact hq.elim
  intro b k cs
  obtain ⟨e, a', w', hq, harr⟩ := key n hf hn hd r h b k cs
  exact ⟨e, a', w', hq, .of_steps (.one step_loop) harr⟩
theorem code_sound (hgl : P.globals.size ≤ nb) (hm : P.follows .mixedOrders = true) {call : CallF} (hcall : CallsOk P nb call) {n : Nat} {out : Out × Heap} {ds : List Deferred} :
    ∀ (c : Code) {K : Ex → Fr → Heap → R} {ι : Emb} {fr : Fr} {H : Heap} {a : Act} {w : World}, FRel nb ι fr a.tmps → a.tmps.size = nt → a.defers = ds → Rel nb ι H w →
    (slimCode P nt c).run call n fr H K = some out → c.wp P (CodePost nb nt ι H w ds K out) a w
  | .skip, K, ι, fr, H, a, w, hf, hn, hd, r, h => wp_skip ⟨ι, fr, H, hf, hn, hd, r, Ext.refl, h⟩
  | .region id ops draw, K, ι, fr, H, a, w, hf, hn, hd, r, h => by
    cases draw with
    | false =>
      simp only [slimCode] at h
      rcases orStuck_cases (x := (slimOpers P nt ops ops.toList).map .ops) with ⟨sc, hs, he⟩ | ⟨hs, he⟩
      case inr => rw [he] at h; cases h
      rw [he] at h
      simp only [Option.map_eq_some_iff] at hs
      obtain ⟨qs, hq, rfl⟩ := hs
      refine wp_region (ops_sound hgl hcall (List.range ops.size) (ls := ops.toList) (fun j i hj => ?_) (by simp) hq hf hn hd r Ext.refl h)
      have hlt : j < ops.size := by
        have := (List.getElem?_eq_some_iff.1 hj).1
        simpa using this
      rw [List.getElem?_range hlt] at hj
      simp only [Option.some.injEq] at hj
      subst hj
      exact ⟨ops[j], by simp [hlt], Array.getElem?_eq_getElem hlt⟩
    | true =>
      simp only [slimCode] at h
      rcases orStuck_cases (x := slimDraw P nt ops) with ⟨sc, hs, he⟩ | ⟨hs, he⟩
      case inr => rw [he] at h; cases h
      rw [he] at h
      have : (∃ pre phs, sc = .draw pre phs) ∨ ∃ pre phs a b, sc = .draw2 pre phs a b := by
        simp only [slimDraw, Option.bind_eq_some_iff] at hs
        obtain ⟨sops, _, hs⟩ := hs
        cases hpl : planOk ops.toList sops (befOf ops.toList []) (planOf sops (befOf ops.toList [])) with
        | false =>
          rw [hpl] at hs
          simp only [cond_false, Option.bind_eq_some_iff] at hs
          obtain ⟨q, _, hs⟩ := hs
          cases hpl2 : planOk2 ops.toList sops (befOf ops.toList []) ⟨(planOf sops (befOf ops.toList [])).pre, q.1⟩ q.2.1 q.2.2 with
          | false => rw [hpl2] at hs; cases hs
          | true =>
            rw [hpl2] at hs
            simp only [cond_true, Option.bind_eq_some_iff, Option.map_eq_some_iff] at hs
            obtain ⟨pre', _, phs', _, a', _, b', _, rfl⟩ := hs
            exact .inr ⟨_, _, _, _, rfl⟩
        | true =>
          rw [hpl] at hs
          simp only [cond_true, Option.bind_eq_some_iff, Option.map_eq_some_iff] at hs
          obtain ⟨pre', _, phs', _, rfl⟩ := hs
          exact .inl ⟨_, _, rfl⟩
      subst hd
      rcases this with ⟨pre, phs, rfl⟩ | ⟨pre, phs, sa, sb, rfl⟩
      · exact draw_sound hgl hm hcall hs hf hn r h
      · exact draw2_sound hgl hm hcall hs hf hn r h
  | .seq x y, K, ι, fr, H, a, w, hf, hn, hd, r, h => by
    simp only [slimCode, SCode.run] at h
    have h1 := code_sound hgl hm hcall x hf hn hd r h
    refine wp_seq (wp_mono h1 fun e a' w' hp => ?_)
    cases e <;> simp only [CodePost, Exit.then] at hp ⊢
    case normal =>
      obtain ⟨ι', fr', H', g1, g2, g3, g4, g5, g6⟩ := hp
      exact wp_mono (code_sound hgl hm hcall y g1 g2 g3 g4 g6) fun e a' w' hq => hq.ext g5
    all_goals exact hp
  | .cond c x y, K, ι, fr, H, a, w, hf, hn, hd, r, h => by
    simp only [slimCode] at h
    rcases orStuck_cases (x := (slimX P nt c).map fun c => .cond c (slimCode P nt x) (slimCode P nt y)) with ⟨sc, hs, he⟩ | ⟨hs, he⟩
    case inr => rw [he] at h; cases h
    rw [he] at h
    simp only [Option.map_eq_some_iff] at hs
    obtain ⟨c', hc, rfl⟩ := hs
    simp only [SCode.run, Option.bind_eq_some_iff] at h
    obtain ⟨t, ht, h⟩ := h
    have hcv := (slimX_sound (a := a) hgl hf hc).asBool ht
    refine wp_cond hcv ?_
    cases t
    · exact code_sound hgl hm hcall y hf hn hd r h
    · exact code_sound hgl hm hcall x hf hn hd r h
  | .block id c, K, ι, fr, H, a, w, hf, hn, hd, r, h => by
    simp only [slimCode, SCode.run] at h
    have h1 := code_sound hgl hm hcall c hf hn hd r h
    refine wp_block (wp_mono h1 fun e a' w' hp => ?_)
    cases e <;> simp only [CodePost, Exit.inBlock] at hp ⊢
    case exit i =>
      obtain ⟨ι', fr', H', g1, g2, g3, g4, g5, g6⟩ := hp
      by_cases hi : i = id
      · subst hi
        simp only [Nat.beq_refl, cond_true] at g6
        rw [if_pos rfl]
        exact ⟨ι', fr', H', g1, g2, g3, g4, g5, g6⟩
      · have hbe : Nat.beq i id = false := by
          cases hb : Nat.beq i id with
          | false => rfl
          | true => exact absurd (Nat.eq_of_beq_eq_true hb) hi
        rw [hbe] at g6
        rw [if_neg hi]
        exact ⟨ι', fr', H', g1, g2, g3, g4, g5, g6⟩
    all_goals exact hp
  | .loop c, K, ι, fr, H, a, w, hf, hn, hd, r, h => by
    simp only [slimCode, SCode.run] at h
    exact loop_sound (fun K ι fr H a w g1 g2 g3 g4 g5 => code_sound hgl hm hcall c g1 g2 g3 g4 g5) n hf hn hd r h
  | .exit id, K, ι, fr, H, a, w, hf, hn, hd, r, h => wp_exit ⟨ι, fr, H, hf, hn, hd, r, Ext.refl, h⟩
  | .ret, K, ι, fr, H, a, w, hf, hn, hd, r, h => wp_ret ⟨ι, fr, H, hf, hn, hd, r, Ext.refl, h⟩
  | .rangeFunc _ _ _ _, _, _, _, _, _, _, _, _, _, _, h => by cases h
  | .scope _, _, _, _, _, _, _, _, _, _, _, h => by cases h
  | .label _, _, _, _, _, _, _, _, _, _, _, h => by cases h
  | .goto _, _, _, _, _, _, _, _, _, _, _, h => by cases h
  | .refuse _, _, _, _, _, _, _, _, _, _, _, h => by cases h
/-! ### Functions -/
def readRes (tmps : Array Value) : ResultVar → Sem Value
  | .tmp t => pure (tmps.getD t undef)
  | .cell a t => do loadVar t (← asAddr (tmps.getD a undef))
theorem res_sound (r : Rel nb ι H w) (hf : FRel nb ι fr a.tmps) : ∀ {l : List ResultVar} {rs : List ResV} {vs : List AV}, slimRes P l = some rs → resVals fr H rs = some vs →
    ∃ us : List Value, VRels nb ι vs us ∧ (l.mapM (readRes a.tmps)).run P w = .ok us w
  | [], rs, vs, hs, h => by
    simp only [slimRes, Option.some.injEq] at hs
    subst hs
    simp only [resVals, Option.some.injEq] at h
    subst h
    exact ⟨[], by simp [VRels], rfl⟩
  | .tmp t :: l, rs, vs, hs, h => by
    simp only [slimRes, Option.map_eq_some_iff] at hs
    obtain ⟨rs', hr, rfl⟩ := hs
    simp only [resVals, ResV.val, Option.bind_some, Option.map_eq_some_iff] at h
    obtain ⟨vs', hv, rfl⟩ := h
    obtain ⟨us, hus, hrun⟩ := res_sound r hf hr hv
    refine ⟨a.tmps.getD t undef :: us, by simp only [VRels]; exact ⟨_, _, rfl, hf t, hus⟩, ?_⟩
    simp only [List.mapM_cons, Sem.run_bind, Sem.run_pure, Result.andThen_ok, hrun, readRes]
  | .cell c t :: l, rs, vs, hs, h => by
    simp only [slimRes, Option.bind_eq_some_iff, Option.map_eq_some_iff] at hs
    obtain ⟨g, hgg, s, hsz, rs', hr, rfl⟩ := hs
    simp only [resVals, Option.bind_eq_some_iff, Option.map_eq_some_iff] at h
    obtain ⟨v, hv, vs', hvs, rfl⟩ := h
    obtain ⟨us, hus, hrun⟩ := res_sound r hf hr hvs
    have hagg := run_isAgg (P := P) hgg w
    have hx := hf c
    cases g
    · simp only [cond_false, ResV.val, Option.bind_eq_some_iff] at hv
      obtain ⟨q, hq, hv⟩ := hv
      obtain ⟨lc, hl, hc⟩ := hx.asPtr hq
      obtain ⟨u, hu, hru⟩ := ld1_sound r hl hv
      refine ⟨u :: us, by simp only [VRels]; exact ⟨_, _, rfl, hru, hus⟩, ?_⟩
      have h1 : (readRes a.tmps (.cell c t)).run P w = .ok u w := by
        simp only [readRes, Sem.run_bind, hc, asAddr, Sem.run_pure, Result.andThen_ok, loadVar, hagg, Bool.false_eq_true, if_false, run_load, hu]
      simp only [List.mapM_cons, Sem.run_bind, h1, Sem.run_pure, Result.andThen_ok, hrun]
    · simp only [cond_true, ResV.val, Option.bind_eq_some_iff, Option.map_eq_some_iff] at hv
      obtain ⟨q, hq, xs, hxs, rfl⟩ := hv
      obtain ⟨lc, hl, hc⟩ := hx.asPtr hq
      obtain ⟨_, ws, hwl, hrange, hws⟩ := ldn_sound r hl hxs
      have hld := run_loadCells_list (P := P) w ⟨lc.blk, lc.off + q.2, none⟩ ws (fun j v hv => by rw [Addr.add_mid]; exact hrange j v hv)
      rw [hwl] at hld
      refine ⟨.agg ws.toArray :: us, by simp only [VRels, VRel]; exact ⟨_, _, rfl, ⟨_, rfl, by simpa using hws⟩, hus⟩, ?_⟩
      have h1 : (readRes a.tmps (.cell c t)).run P w = .ok (.agg ws.toArray) w := by
        simp only [readRes, Sem.run_bind, hc, asAddr, Sem.run_pure, Result.andThen_ok, loadVar, hagg, if_true, run_sizeOf hsz, hld]
      simp only [List.mapM_cons, Sem.run_bind, h1, Sem.run_pure, Result.andThen_ok, hrun]
theorem results_sound (r : Rel nb ι H w) (hf : FRel nb ι fr a.tmps) {fn : Func} {rs : List ResV} {vs : List AV} (hs : slimRes P fn.results.toList = some rs) (h : resVals fr H rs = some vs) :
    ∃ u, (results fn a.tmps).run P w = .ok u w ∧ VRel nb ι (oneOr vs) u := by
  obtain ⟨us, hus, hrun⟩ := res_sound r hf hs h
  have hm : (fn.results.mapM (readRes a.tmps)).run P w = .ok us.toArray w := by
    rw [Array.mapM_eq_mapM_toList]
    simp only [Sem.run_map]
    rw [hrun]
    rfl
  have hlen := hus.length
  refine ⟨if h : us.toArray.size = 1 then us.toArray[0] else .tuple us.toArray, ?_, ?_⟩
  · have he : results fn a.tmps = (do let vs ← fn.results.mapM (readRes a.tmps); pure (if h : vs.size = 1 then vs[0] else .tuple vs) : Sem Value) := by
      unfold results
      congr 1
    rw [he, Sem.run_bind, hm]
    rfl
  · cases vs with
    | nil =>
      simp only [VRels] at hus
      subst hus
      simp [oneOr, VRel, VRels]
    | cons v vs =>
      cases vs with
      | nil =>
        simp only [VRels] at hus
        obtain ⟨y, ys, rfl, hy, rfl⟩ := hus
        simpa [oneOr] using hy
      | cons v2 vs =>
        have : ¬ us.toArray.size = 1 := by simp [hlen]
        rw [dif_neg this]
        simp only [oneOr, VRel]
        exact ⟨_, rfl, by simpa using hus⟩
def OwnOk (P : Program) (nb : NB) (f : FuncId) (g : List AV → Heap → R) : Prop :=
  ∀ (xs : List AV) (args : Array Value) (ι : Emb) (H : Heap) (w : World) (out : Out × Heap), g xs H = some out → VRels nb ι xs args.toList → Rel nb ι H w →
    (∀ w', (callFunc f args).run P w' = .ok (.enter f args) w') ∧ Calls P f args w (CallPost nb ι H w out)
theorem body_sound (hgl : P.globals.size ≤ nb) (hm : P.follows .mixedOrders = true) {call : CallF} (hcall : CallsOk P nb call) {n : Nat} {f : FuncId} {fn : Func} {c : Code} {sc : SCode} {rs : List ResV} (hfn : P.funcs[f]? = some fn) (hc : fn.body = some c)
    (hsc : slimCode P fn.ntmps c = sc) (hrs : slimRes P fn.results.toList = some rs) {xs : List AV} {args : Array Value} (hble : xs.length ≤ fn.ntmps) (hxs : VRels nb ι xs args.toList) (r : Rel nb ι H w) {out : Out × Heap}
    (h : sc.run call n (initFr xs) H (finish rs) = some out) : Calls P f args w (CallPost nb ι H w out) := by
  refine calls_of_wp hfn hc ?_
  have hlen := hxs.length
  have hsz : args.size ≤ fn.ntmps := by
    simp at hlen
    omega
  have hf0 : FRel nb ι (initFr xs) (args ++ Array.replicate (fn.ntmps - args.size) undef) := fun t => by
    unfold initFr
    cases hx : xs[t]? with
    | none => simp only [Option.getD_none, VRel]
    | some x =>
      obtain ⟨u, hu, hr⟩ := hxs.get t x hx
      have hlt : t < args.size := by
        have := (List.getElem?_eq_some_iff.1 hu).1
        simpa using this
      have hu' : args[t]? = some u := by simpa using hu
      have : (args ++ Array.replicate (fn.ntmps - args.size) undef).getD t undef = u := by
        rw [Array.getD_eq_getD_getElem?, Array.getElem?_append_left hlt, hu']; rfl
      rw [this]
      exact hr
  subst hsc
  have h1 := code_sound (nt := fn.ntmps) hgl hm hcall (ds := []) c (a := { tmps := args ++ Array.replicate (fn.ntmps - args.size) undef, defers := [] }) hf0 (by simp; omega) rfl r h
  refine wp_mono h1 fun e a' w' hp => ?_
  cases e <;> simp only [CodePost, bodyPost] at hp ⊢
  case normal =>
    obtain ⟨ι', fr', H', g1, g2, g3, g4, g5, g6⟩ := hp
    simp only [finish, Option.map_eq_some_iff] at g6
    obtain ⟨vs, hvs, rfl⟩ := g6
    obtain ⟨u, hu, hr⟩ := results_sound g4 g1 hrs hvs
    exact ⟨g3, u, hu, ι', oneOr vs, rfl, hr, g4, g5⟩
  case ret =>
    obtain ⟨ι', fr', H', g1, g2, g3, g4, g5, g6⟩ := hp
    simp only [finish, Option.map_eq_some_iff] at g6
    obtain ⟨vs, hvs, rfl⟩ := g6
    obtain ⟨u, hu, hr⟩ := results_sound g4 g1 hrs hvs
    exact ⟨g3, u, hu, ι', oneOr vs, rfl, hr, g4, g5⟩
  case exit id =>
    obtain ⟨ι', fr', H', g1, g2, g3, g4, g5, g6⟩ := hp
    simp only [finish, reduceCtorEq] at g6
  case panic ch =>
    obtain ⟨ι', x, v, g1, g2, g3, g4, g5, g6⟩ := hp
    exact ⟨g6, ι', x, v, g1, g2, g3, g4, g5⟩
theorem CallPost.from {ι1 : Emb} {H1 : Heap} {w1 : World} {out : Out × Heap} (e : Ext nb ι H w ι1 H1 w1) {en : Ending} {w' : World} (h : CallPost nb ι1 H1 w1 out en w') : CallPost nb ι H w out en w' := by
  cases en with
  | returned v =>
    obtain ⟨ι', x, g1, g2, g3, g4⟩ := h
    exact ⟨ι', x, g1, g2, g3, e.trans g4⟩
  | panicked c =>
    obtain ⟨ι', x, v, g1, g2, g3, g4, g5⟩ := h
    exact ⟨ι', x, v, g1, g2, g3, g4, e.trans g5⟩
  | outgrown => exact h
theorem CallPost.opened (r : Rel nb ι H w) {out0 out : Out × Heap} (h : opened H (some out0) = some out) {en : Ending} {w' : World} (hp : CallPost nb ι.bare H.bare w out0 en w') : CallPost nb ι H w out en w' := by
  obtain ⟨o0, H0⟩ := out0
  cases en with
  | returned v =>
    obtain ⟨ι', x, g1, g2, g3, g4⟩ := hp
    simp only [] at g1 g3 g4
    subst g1
    simp only [Lite.opened, Option.map_eq_some_iff] at h
    obtain ⟨⟨y, H2⟩, hy, rfl⟩ := h
    obtain ⟨ι2, r2, e2, v2, p2⟩ := shutV_sound x H0 y H2 ι' w' v hy g2 g3
    obtain ⟨q1, q2⟩ := r.behind r2 (g4.trans e2)
    exact ⟨⟨ι.map, ι2.fz⟩, y, rfl, VRel.mono (ι := ι2.bare) (ι' := ⟨ι.map, ι2.fz⟩) ⟨fun _ _ h => (by cases h), fun _ _ h => h⟩ y v (VRel.pure y v p2 v2), q1, q2⟩
  | panicked c =>
    obtain ⟨ι', x, v, g1, g0, g2, g3, g4⟩ := hp
    simp only [] at g1 g3 g4
    subst g1
    simp only [Lite.opened, Option.map_eq_some_iff] at h
    obtain ⟨⟨y, H2⟩, hy, rfl⟩ := h
    obtain ⟨ι2, r2, e2, v2, p2⟩ := shutV_sound x H0 y H2 ι' w' v hy g2 g3
    obtain ⟨q1, q2⟩ := r.behind r2 (g4.trans e2)
    exact ⟨⟨ι.map, ι2.fz⟩, y, v, rfl, g0, VRel.mono (ι := ι2.bare) (ι' := ⟨ι.map, ι2.fz⟩) ⟨fun _ _ h => (by cases h), fun _ _ h => h⟩ y v (VRel.pure y v p2 v2), q1, q2⟩
  | outgrown => exact hp
theorem CallPost.settled {out0 out : Out × Heap} (h : settled (some out0) = some out) {en : Ending} {w' : World} (hp : CallPost nb ι H w out0 en w') : CallPost nb ι H w out en w' := by
  obtain ⟨o0, H0⟩ := out0
  cases en with
  | returned v =>
    obtain ⟨ι', x, g1, g2, g3, g4⟩ := hp
    simp only [] at g1 g3 g4
    subst g1
    simp only [Lite.settled, Option.map_eq_some_iff] at h
    obtain ⟨⟨y, H2⟩, hy, rfl⟩ := h
    obtain ⟨ι2, r2, e2, v2, p2⟩ := shutV_sound x H0 y H2 ι' w' v hy g2 g3
    exact ⟨ι2, y, rfl, v2, r2, g4.trans e2⟩
  | panicked c =>
    have hp' := hp
    obtain ⟨ι', x, v, g1, g0, g2, g3, g4⟩ := hp
    simp only [] at g1
    subst g1
    simp only [Lite.settled, Option.some.injEq] at h
    subst h
    exact hp'
  | outgrown => exact hp
theorem callN_sound (hgl : P.globals.size ≤ nb) (hm : P.follows .mixedOrders = true) {own : FuncId → Option (List AV → Heap → R)} (hown : ∀ f g, own f = some g → OwnOk P nb f g) : ∀ (n : Nat) {mode : FuncId → Nat}, CallsOk P nb (callN (slimPrg P own mode) n)
  | 0, _ => fun f xs args ι H w out h _ _ => by cases h
  | n + 1, mode => fun f xs args ι H w out h hxs r => by
    simp only [callN, slimPrg] at h
    split at h
    · rename_i g hg
      exact hown f g hg xs args ι H w out h hxs r
    · split at h
      case h_2 => cases h
      rename_i sf hsf
      simp only [Option.bind_eq_some_iff] at hsf
      obtain ⟨fn, hfn, hsf⟩ := hsf
      unfold slimFunc at hsf
      cases hnm : (fn.name == "runtime.NumGoroutine") with
      | true => rw [hnm] at hsf; cases hsf
      | false =>
        rw [hnm] at hsf
        simp only [cond_false, Option.bind_eq_some_iff, Option.map_eq_some_iff] at hsf
        obtain ⟨c, hc, rs, hrs, rfl⟩ := hsf
        have hnm' : ¬ fn.name = "runtime.NumGoroutine" := by simpa using hnm
        refine ⟨fun w' => ?_, ?_⟩
        · simp [callFunc, hfn, hnm', hc]
        · cases hble : Nat.ble xs.length fn.ntmps with
          | false => rw [hble] at h; cases h
          | true =>
            rw [hble] at h
            simp only [cond_true] at h
            have hle := Nat.le_of_ble_eq_true hble
            split at h
            · exact body_sound hgl hm (callN_sound hgl hm hown n) hfn hc rfl hrs hle hxs r h
            · simp only [Option.bind_eq_some_iff] at h
              obtain ⟨⟨ys, H1⟩, h1, h⟩ := h
              obtain ⟨ι1, r1, e1, v1⟩ := softs_sound xs H ys H1 ι w _ h1 hxs r
              change settled ((slimCode P fn.ntmps c).run (callN (slimPrg P own mode) n) n (initFr ys) H1 (finish rs)) = some out at h
              generalize hrun : (slimCode P fn.ntmps c).run (callN (slimPrg P own mode) n) n (initFr ys) H1 (finish rs) = res at h
              cases res with
              | none => cases h
              | some out0 =>
                have hyl : ys.length ≤ fn.ntmps := by rw [← v1.length, hxs.length]; exact hle
                refine (body_sound hgl hm (callN_sound hgl hm hown n) hfn hc rfl hrs hyl v1 r1 hrun).mono fun en w' hp => ?_
                exact (hp.settled h).from e1
            · simp only [Option.bind_eq_some_iff] at h
              obtain ⟨⟨ys, H1⟩, h1, h⟩ := h
              obtain ⟨ι1, r1, e1, v1⟩ := softs_sound xs H ys H1 ι w _ h1 hxs r
              have hyl : ys.length ≤ fn.ntmps := by rw [← v1.length, hxs.length]; exact hle
              refine (body_sound hgl hm (callN_sound hgl hm hown n) hfn hc rfl hrs hyl v1 r1 h).mono fun en w' hp => ?_
              exact hp.from e1
            · simp only [Option.bind_eq_some_iff] at h
              obtain ⟨⟨ys, H1⟩, h1, h⟩ := h
              obtain ⟨ι1, r1, e1, v1⟩ := softs_sound xs H ys H1 ι w _ h1 hxs r
              have hyl : ys.length ≤ fn.ntmps := by rw [← v1.length, hxs.length]; exact hle
              refine (body_sound hgl hm (callN_sound hgl hm hown n (mode := fun g => bif Nat.beq g f then 2 else mode g)) hfn hc rfl hrs hyl v1 r1 h).mono fun en w' hp => ?_
              exact hp.from e1
            · simp only [Option.bind_eq_some_iff] at h
              obtain ⟨⟨ys, H1⟩, h1, h⟩ := h
              obtain ⟨ι1, r1, e1, v1, p1⟩ := mapHM_sound shutV_sound xs H ys H1 ι w _ h1 hxs r
              change opened H1 ((slimCode P fn.ntmps c).run (callN (slimPrg P own mode) n) n (initFr ys) H1.bare (finish rs)) = some out at h
              generalize hrun : (slimCode P fn.ntmps c).run (callN (slimPrg P own mode) n) n (initFr ys) H1.bare (finish rs) = res at h
              cases res with
              | none => cases h
              | some out0 =>
                have hyl : ys.length ≤ fn.ntmps := by rw [← v1.length, hxs.length]; exact hle
                refine (body_sound hgl hm (callN_sound hgl hm hown n) hfn hc rfl hrs hyl (VRels.pure ys _ p1 v1) r1.bareH hrun).mono fun en w' hp => ?_
                exact (hp.opened r1 h).from e1
end Go.Lite

/-
  A row's call: the interpreter's first heap is bare; what stands in the world will not change.
-/
namespace Go.Lite
open Go Go.RowKit
variable {P : Program} {nb : NB} {ι : Emb} {W : World}
def heap0 : Heap := { base := fun _ => none, t := .nil, n := 0 }
def emb0 (W : World) : Emb := ⟨fun _ => none, fun b => if b < W.heap.size then some (cellsAt W b) else none⟩
theorem heap0_rel (W : World) (hn : nb.n = W.heap.size) (hi : nb.inv W) : Rel nb (emb0 W) heap0 W where
  nbw := Nat.le_of_eq hn
  inv := hi
  old b cs hb := by cases hb
  row k l cs es fz ty h := by cases h
  iter k l s pos h := by cases h
  dom k l h := by cases h
  inj k k' l l' o o' h := by cases h
  lt k o h := by simp [heap0, T.get_nil] at h
  fz b c h := by
    simp only [emb0] at h
    split at h
    case isFalse => cases h
    rename_i hb
    simp only [Option.some.injEq] at h
    subst h
    exact ⟨hb, fun i => cellsAt_cell W b i, fun k l o h => by cases h⟩
theorem globals_le (h : W.ShapedOpen P) : P.globals.size ≤ W.heap.size := by
  obtain ⟨o, _, h1, _⟩ := h.2 P.globals.size (Nat.le_refl _) (by simp [begin]; omega)
  have := (Array.getElem?_eq_some_iff.1 h1).1
  omega
theorem Ext.below {H H' : Heap} {ι' : Emb} {w' : World} (hn : nb.n = W.heap.size) (h : Ext nb (emb0 W) H W ι' H' w') : Below W.heap.size W w' :=
  ⟨h.env.1, h.env.2.1, h.env.2.2, h.size, fun k hk => h.kept k hk (.inl (by rw [hn]; exact hk))⟩
theorem row_runN (hn : nb.n = W.heap.size) (hi : nb.inv W) (hgl : P.globals.size ≤ W.heap.size) (hm : P.follows .mixedOrders = true) {own : FuncId → Option (List AV → Heap → R)} (hown : ∀ f g, own f = some g → OwnOk P nb f g) {mode : FuncId → Nat} {n : Nat} {f : FuncId} {xs : List AV} {args : Array Value}
    {H' : Heap} (h : callN (slimPrg P own mode) n f xs heap0 = some (.ret (.bool true), H')) (hxs : VRels nb (emb0 W) xs args.toList) :
    Calls P f args W fun e w' => e = .returned (.bool true) ∧ Below W.heap.size W w' := by
  refine ((callN_sound (by rw [hn]; exact hgl) hm hown n f xs args _ _ W _ h hxs (heap0_rel W hn hi)).2).mono fun e w' hp => ?_
  cases e <;> simp only [CallPost] at hp
  case returned v =>
    obtain ⟨ι', x, h1, h2, h3, h4⟩ := hp
    simp only [Out.ret.injEq] at h1
    subst h1
    simp only [VRel] at h2
    subst h2
    exact ⟨rfl, Ext.below hn h4⟩
  all_goals (first | exact hp.elim | (obtain ⟨_, _, _, h, _⟩ := hp; cases h))
end Go.Lite
