/-
  The interpreter's word on code, on functions.
-/
import Derived.Test.YtibjdfajafilhaaLShut
import Derived.Test.YtibjdfajafilhaaLDrawE
namespace Go.Lite
open Go
set_option linter.unusedSimpArgs false
set_option linter.unusedVariables false

variable {P : Program} {nb : NB} {ι : Emb} {H : Heap} {w : World} {fr : Fr} {a : Act} {nt : Nat}

/-! ### The facts that are looked at -/

theorem slimOpers_get {ops : Array Oper} : ∀ {l : List Oper} {qs : List SOper}, slimOpers P nt ops l = some qs → qs.length = l.length ∧ (∀ (i : Nat) (o : Oper), l[i]? = some o → ∃ s, qs[i]? = some s ∧ slimOper P nt ops o = some s) ∧ (∀ (i : Nat) (s : SOper), qs[i]? = some s → ∃ o, l[i]? = some o ∧ slimOper P nt ops o = some s)
  | [], qs, h => by simp [slimOpers] at h; subst h; simp
  | o :: l, qs, h => by
    simp only [slimOpers, Option.bind_eq_some_iff, Option.map_eq_some_iff] at h
    obtain ⟨q, hq, rs, hr, rfl⟩ := h
    obtain ⟨h1, h2, h3⟩ := slimOpers_get hr
    refine ⟨by simp [h1], fun i o' ho => ?_, fun i s hs => ?_⟩
    · cases i with
      | zero => simp at ho; subst ho; exact ⟨q, rfl, hq⟩
      | succ i => simpa using h2 i o' (by simpa using ho)
    · cases i with
      | zero => simp at hs; subst hs; exact ⟨o, rfl, hq⟩
      | succ i => simpa using h3 i s (by simpa using hs)

theorem planOk_PF {ops : Array Oper} {sops : List SOper} {bef : List (List Nat)} {p : Plan} (hs : slimOpers P nt ops ops.toList = some sops) (h : planOk ops.toList sops bef p = true) :
    PF P nt ops sops bef ∧ sops.length = ops.size ∧ (∀ i, i < ops.size → i ∈ p.order) ∧ extOk bef [] p.order = true ∧ (∀ i ∈ p.pre, ∀ s, sops[i]? = some s → s.big = false) ∧ phsOk sops bef p.pre.reverse none p.phs = true := by
  obtain ⟨hl, g1, g2⟩ := slimOpers_get hs
  simp only [planOk, Bool.and_eq_true, List.all_eq_true, List.mem_range, decide_eq_true_eq, List.contains_iff_mem] at h
  obtain ⟨⟨⟨⟨⟨⟨⟨⟨c0, c1⟩, c2⟩, c3⟩, c4⟩, c5⟩, c6⟩, c7⟩, c8⟩ := h
  have hsz : sops.length = ops.size := by simpa using hl
  refine ⟨⟨fun i o ho => g1 i o (by simpa using ho), fun i s hsi => ?_, fun i o ho => ?_, fun i o ho j hj => ?_, fun i j s sj d hsi hsj hij hd => ?_⟩, hsz, fun i hi => c4 i (by omega), c6, fun i hi s hsi => ?_, c8⟩
  · obtain ⟨o, ho, h1⟩ := g2 i s hsi
    exact ⟨o, by simpa using ho, h1⟩
  · have hlt := (Array.getElem?_eq_some_iff.1 ho).1
    have := c1 i (by omega)
    have he : ops.toList.getD i default = o := by simp [List.getD_eq_getElem?_getD, ho]
    rw [he] at this
    exact this
  · have hlt := (Array.getElem?_eq_some_iff.1 ho).1
    have := c2 i (by omega) j hj
    have he : ops.toList.getD i default = o := by simp [List.getD_eq_getElem?_getD, ho]
    rw [he] at this
    simp only [List.any_eq_true, Bool.or_eq_true, beq_iff_eq, List.contains_iff_mem] at this
    exact this
  · have hi := (List.getElem?_eq_some_iff.1 hsi).1
    have hj := (List.getElem?_eq_some_iff.1 hsj).1
    have := c3 i hi j hj
    simp only [Bool.or_eq_true, beq_iff_eq] at this
    have := this.resolve_left hij
    rw [hsj, hsi] at this
    simp only [Option.bind_some, hd, Option.any_some, Bool.and_eq_true, bne_iff_ne, ne_eq, Bool.or_eq_true, Bool.not_eq_true', List.contains_iff_mem] at this
    refine ⟨this.1, fun hdl => ?_⟩
    rcases this.2 with (h | h) | h
    · rw [List.contains_iff_mem.2 hdl] at h; cases h
    · exact .inl h
    · exact .inr h
  · have := c7 i hi
    rw [hsi] at this
    simpa using this

theorem frameOk_PF {ops : Array Oper} {sops : List SOper} {bef : List (List Nat)} (hs : slimOpers P nt ops ops.toList = some sops) (h : frameOk ops.toList sops bef = true) :
    PF P nt ops sops bef ∧ sops.length = ops.size := by
  obtain ⟨hl, g1, g2⟩ := slimOpers_get hs
  simp only [frameOk, Bool.and_eq_true, List.all_eq_true, List.mem_range, decide_eq_true_eq, List.contains_iff_mem] at h
  obtain ⟨⟨⟨c0, c1⟩, c2⟩, c3⟩ := h
  have hsz : sops.length = ops.size := by simpa using hl
  refine ⟨⟨fun i o ho => g1 i o (by simpa using ho), fun i s hsi => ?_, fun i o ho => ?_, fun i o ho j hj => ?_, fun i j s sj d hsi hsj hij hd => ?_⟩, hsz⟩
  · obtain ⟨o, ho, h1⟩ := g2 i s hsi
    exact ⟨o, by simpa using ho, h1⟩
  · have hlt := (Array.getElem?_eq_some_iff.1 ho).1
    have := c1 i (by omega)
    have he : ops.toList.getD i default = o := by simp [List.getD_eq_getElem?_getD, ho]
    rw [he] at this
    exact this
  · have hlt := (Array.getElem?_eq_some_iff.1 ho).1
    have := c2 i (by omega) j hj
    have he : ops.toList.getD i default = o := by simp [List.getD_eq_getElem?_getD, ho]
    rw [he] at this
    simp only [List.any_eq_true, Bool.or_eq_true, beq_iff_eq, List.contains_iff_mem] at this
    exact this
  · have hi := (List.getElem?_eq_some_iff.1 hsi).1
    have hj := (List.getElem?_eq_some_iff.1 hsj).1
    have := c3 i hi j hj
    simp only [Bool.or_eq_true, beq_iff_eq] at this
    have := this.resolve_left hij
    rw [hsj, hsi] at this
    simp only [Option.bind_some, hd, Option.any_some, Bool.and_eq_true, bne_iff_ne, ne_eq, Bool.or_eq_true, Bool.not_eq_true', List.contains_iff_mem] at this
    refine ⟨this.1, fun hdl => ?_⟩
    rcases this.2 with (h | h) | h
    · rw [List.contains_iff_mem.2 hdl] at h; cases h
    · exact .inl h
    · exact .inr h

/-! ### Code -/

/-- What code comes to. -/
def CodePost (nb : NB) (nt : Nat) (ι : Emb) (H : Heap) (w : World) (ds : List Deferred) (K : Ex → Fr → Heap → R) (out : Out × Heap) : Exit → Act → World → Prop
  | .normal, a', w' => ∃ ι' fr' H', FRel nb ι' fr' a'.tmps ∧ a'.tmps.size = nt ∧ a'.defers = ds ∧ Rel nb ι' H' w' ∧ Ext nb ι H w ι' H' w' ∧ K .normal fr' H' = some out
  | .exit id, a', w' => ∃ ι' fr' H', FRel nb ι' fr' a'.tmps ∧ a'.tmps.size = nt ∧ a'.defers = ds ∧ Rel nb ι' H' w' ∧ Ext nb ι H w ι' H' w' ∧ K (.exit id) fr' H' = some out
  | .ret, a', w' => ∃ ι' fr' H', FRel nb ι' fr' a'.tmps ∧ a'.tmps.size = nt ∧ a'.defers = ds ∧ Rel nb ι' H' w' ∧ Ext nb ι H w ι' H' w' ∧ K .ret fr' H' = some out
  | .panic c, a', w' => ∃ ι' x v, out.1 = .panic x ∧ c = [{ v, recovered := false }] ∧ VRel nb ι' x v ∧ Rel nb ι' out.2 w' ∧ Ext nb ι H w ι' out.2 w' ∧ a'.defers = ds
  | _, _, _ => False

theorem CodePost.ext {nb : NB} {nt : Nat} {ι ι1 : Emb} {H H1 : Heap} {w w1 : World} {ds : List Deferred} {K : Ex → Fr → Heap → R} {out : Out × Heap} (h : Ext nb ι H w ι1 H1 w1) {e : Exit} {a' : Act} {w' : World}
    (hp : CodePost nb nt ι1 H1 w1 ds K out e a' w') : CodePost nb nt ι H w ds K out e a' w' := by
  cases e <;> simp only [CodePost] at hp ⊢
  case panic c =>
    obtain ⟨ι', x, v, g1, g2, g3, g4, g5, g6⟩ := hp
    exact ⟨ι', x, v, g1, g2, g3, g4, h.trans g5, g6⟩
  all_goals (
    obtain ⟨ι', fr', H', g1, g2, g3, g4, g5, g6⟩ := hp
    exact ⟨ι', fr', H', g1, g2, g3, g4, h.trans g5, g6⟩)

theorem ops_sound (hgl : P.globals.size ≤ nb) {call : CallF} (hcall : CallsOk P nb call) {ops : Array Oper} {ds : List Deferred} {K : Ex → Fr → Heap → R} {out : Out × Heap} {ι0 : Emb} {H0 : Heap} {w0 : World} :
    ∀ (l : List Nat) {ls : List Oper} {qs : List SOper} {ι : Emb} {fr : Fr} {H : Heap} {a : Act} {w : World}, (∀ (j : Nat) (i : Nat), l[j]? = some i → ∃ o, ls[j]? = some o ∧ ops[i]? = some o) → l.length = ls.length → slimOpers P nt ops ls = some qs →
    FRel nb ι fr a.tmps → a.tmps.size = nt → a.defers = ds → Rel nb ι H w → Ext nb ι0 H0 w0 ι H w → runOps call qs fr H (K .normal) = some out → wpOps P ops (CodePost nb nt ι0 H0 w0 ds K out) l a w
  | [], ls, qs, ι, fr, H, a, w, hl, hlen, hs, hf, hn, hd, r, hx, h => by
    cases ls with
    | cons o ls => simp at hlen
    | nil =>
      simp only [slimOpers, Option.some.injEq] at hs
      subst hs
      exact ⟨ι, fr, H, hf, hn, hd, r, hx, h⟩
  | i :: l, ls, qs, ι, fr, H, a, w, hl, hlen, hs, hf, hn, hd, r, hx, h => by
    cases ls with
    | nil => simp at hlen
    | cons o ls =>
      obtain ⟨o', ho', hoi⟩ := hl 0 i rfl
      simp only [List.getElem?_cons_zero, Option.some.injEq] at ho'
      subst ho'
      simp only [slimOpers, Option.bind_eq_some_iff, Option.map_eq_some_iff] at hs
      obtain ⟨q, hq, rs, hr, rfl⟩ := hs
      obtain ⟨e1, e2, e3, e4⟩ := slimOper_inv hq
      have ih := fun {ι : Emb} {fr : Fr} {H : Heap} {a : Act} {w : World} => ops_sound hgl hcall (ops := ops) (ds := ds) (K := K) (out := out) (ι0 := ι0) (H0 := H0) (w0 := w0) l (ls := ls) (qs := rs) (ι := ι) (fr := fr) (H := H) (a := a) (w := w)
        (fun j k hj => hl (j + 1) k (by simpa using hj)) (by simpa using hlen) hr
      simp only [runOps] at h
      obtain ⟨b, hb, h⟩ := Option.bind_eq_some_iff.1 h
      have hw := wanted_sound hf hn e3 hb
      have hput : ∀ (ι' : Emb) (x : AV) (u : Value), ι.le ι' → VRel nb ι' x u → FRel nb ι' (fr.put q.dst x) (a.put o.dst u).tmps := by
        intro ι' x u hle hu
        rw [e1]
        cases hdo : o.dst with
        | none => exact hf.mono hle
        | some d => exact (hf.mono hle).set (by rw [hn]; exact e2 d hdo) hu
      simp only [wpOps, hoi]
      cases b with
      | false =>
        simp only [cond_false] at h
        rw [if_neg (by rw [hw]; decide)]
        exact ih (hput ι skipped undef (Emb.le_refl ι) (by simp [skipped, VRel, VRels, undef])) (by rw [put_size]; exact hn) (by rw [put_defers']; exact hd) r hx h
      | true =>
        simp only [cond_true] at h
        rw [if_pos hw]
        left
        refine sop_step hcall hgl hf r e4 h (fun u x ι' H' w' hu hr' hext hk => ?_) (fun u x ι' w' ho hu hr' hext => ?_)
        · exact ih (hput ι' x u hext.le hu) (by rw [put_size]; exact hn) (by rw [put_defers']; exact hd) hr' (hx.trans hext) hk
        · exact ⟨ι', x, u, ho, rfl, hu, hr', hx.trans hext, hd⟩

theorem draw_sound (hgl : P.globals.size ≤ nb) (hm : P.follows .mixedOrders = true) {call : CallF} (hcall : CallsOk P nb call) {ops : Array Oper} {id : Nat} {pre : List SOper} {phs : List (SOper × List SOper × List SOper)}
    (hs : slimDraw P nt ops = some (.draw pre phs)) {K : Ex → Fr → Heap → R} {out : Out × Heap} (hf : FRel nb ι fr a.tmps) (hn : a.tmps.size = nt) (r : Rel nb ι H w)
    (h : runOps call pre fr H (fun fr H => runPhs call phs fr H (K .normal)) = some out) : (Code.region id ops true).wp P (CodePost nb nt ι H w a.defers K out) a w := by
  simp only [slimDraw, Option.bind_eq_some_iff] at hs
  obtain ⟨sops, hso, hs⟩ := hs
  cases hpl : planOk ops.toList sops (befOf ops.toList []) (planOf sops (befOf ops.toList [])) with
  | false =>
    rw [hpl] at hs
    simp only [cond_false, Option.bind_eq_some_iff] at hs
    obtain ⟨q, _, hs⟩ := hs
    cases hpl2 : planOk2 ops.toList sops (befOf ops.toList []) ⟨(planOf sops (befOf ops.toList [])).pre, q.1⟩ q.2.1 q.2.2 with
    | false => rw [hpl2] at hs; cases hs
    | true =>
      rw [hpl2] at hs
      simp only [cond_true, Option.bind_eq_some_iff, Option.map_eq_some_iff] at hs
      obtain ⟨pre', _, phs', _, a', _, b', _, heq⟩ := hs
      cases heq
  | true =>
    rw [hpl] at hs
    simp only [cond_true, Option.bind_eq_some_iff, Option.map_eq_some_iff] at hs
    obtain ⟨pre', hpre, phs', hphs, heq⟩ := hs
    simp only [SCode.draw.injEq] at heq
    obtain ⟨rfl, rfl⟩ := heq
    obtain ⟨pf, hlen, hcov, hext, hpre0, hph⟩ := planOk_PF hso hpl
    generalize planOf sops (befOf ops.toList []) = pln at *
    generalize befOf ops.toList [] = bef at *
    refine wp_region_any hm ?_
    have hh : ({ w with drawn := w.drawn + 1 } : World).heap = w.heap := rfl
    have hw' : Rel nb ι H { w with drawn := w.drawn + 1 } := r.same hh
    have hx' : Ext nb ι H w ι H { w with drawn := w.drawn + 1 } := Ext.same rfl
    have hnl : ∀ i, ¬ Lst (Array.replicate ops.size false) i := fun i h => by
      unfold Lst at h
      by_cases hi : i < ops.size
      · simp [Array.getD_eq_getD_getElem?, hi] at h
      · simp [Array.getD_eq_getD_getElem?, hi] at h
    have v0 : Inv P nb nt ops sops bef fr ι H w a.defers ι fr H a { w with drawn := w.drawn + 1 } (Array.replicate ops.size false) [] (fun _ => fr) (fun _ => 0) (fun _ => .iter [] 0) := by
      refine ⟨by simp, fun i h => absurd h (hnl i), fun i h => (by cases h), fun i o _ h => absurd h (hnl i), fun i h => (by cases h), fun t => ?_, hn, rfl, fun t _ => rfl, hw', hx', fun i h => (by cases h), fun i h => (by cases h)⟩
      unfold view
      rw [if_neg]
      · exact hf t
      · rintro ⟨i, s, h, _⟩
        exact hnl i h
    have hext' : extOk bef [] (pln.pre ++ pln.phs.flatMap fun q => q.1 :: q.2.2) = true := hext
    obtain ⟨f', G', m', ids', obs', v1, hk, he1⟩ := Inv.takeAll pf pln.pre v0 hext' hpre0 hpre h
    refine draw_any hgl hcall pf hlen (ι0 := ι) (H0 := H) (w0 := w) (ds := a.defers) (fr0 := fr) (K := K .normal) (out := out) (fun ι' f' G' a' w' g1 g2 g3 g4 g5 g6 => ⟨ι', f', G', g1, g2, g3, g4, g5, g6⟩)
      (fun u x ι' a' w' g1 g2 g3 g4 g5 => ⟨ι', x, u, g1, rfl, g2, g3, g4, g5⟩) ops.size v1 he1 (by simpa using hph) hphs (fun i hi => ?_) hk ?_
    · have := hcov i hi
      unfold Plan.order at this
      rcases List.mem_append.1 this with h | h
      · exact .inl (List.mem_append_left _ (List.mem_reverse.2 h))
      · exact .inr h
    · unfold Lite.left
      exact Nat.le_trans (List.length_filter_le _ _) (by simp)

theorem draw2_sound (hgl : P.globals.size ≤ nb) (hm : P.follows .mixedOrders = true) {call : CallF} (hcall : CallsOk P nb call) {ops : Array Oper} {id : Nat} {pre : List SOper} {phs : List (SOper × List SOper × List SOper)} {sa sb : SOper}
    (hs : slimDraw P nt ops = some (.draw2 pre phs sa sb)) {K : Ex → Fr → Heap → R} {out : Out × Heap} (hf : FRel nb ι fr a.tmps) (hn : a.tmps.size = nt) (r : Rel nb ι H w)
    (h : runOps call pre fr H (fun fr H => runPhs call phs fr H fun fr H => bif asunder sa sb fr then sa.run call fr H fun fr H => sb.run call fr H (K .normal) else none) = some out) : (Code.region id ops true).wp P (CodePost nb nt ι H w a.defers K out) a w := by
  simp only [slimDraw, Option.bind_eq_some_iff] at hs
  obtain ⟨sops, hso, hs⟩ := hs
  cases hpl : planOk ops.toList sops (befOf ops.toList []) (planOf sops (befOf ops.toList [])) with
  | true =>
    rw [hpl] at hs
    simp only [cond_true, Option.bind_eq_some_iff, Option.map_eq_some_iff] at hs
    obtain ⟨pre', hpre, phs', hphs, heq⟩ := hs
    cases heq
  | false =>
  rw [hpl] at hs
  simp only [cond_false, Option.bind_eq_some_iff] at hs
  obtain ⟨⟨phs1, wi, wj⟩, hsp, hs⟩ := hs
  generalize befOf ops.toList [] = bef at *
  generalize hpn : planOf sops bef = pln at *
  simp only [] at hs
  cases hpl2 : planOk2 ops.toList sops bef ⟨pln.pre, phs1⟩ wi wj with
  | false => rw [hpl2] at hs; cases hs
  | true =>
  rw [hpl2] at hs
  simp only [cond_true, Option.bind_eq_some_iff, Option.map_eq_some_iff] at hs
  obtain ⟨pre', hpre, phs', hphs, a', hsa, b', hsb, heq⟩ := hs
  simp only [SCode.draw2.injEq] at heq
  obtain ⟨rfl, rfl, rfl, rfl⟩ := heq
  simp only [planOk2, Bool.and_eq_true] at hpl2
  obtain ⟨⟨⟨⟨⟨⟨⟨⟨⟨hfr, hcov⟩, hext⟩, hext2⟩, hpre0⟩, hph⟩, hbi⟩, hbj⟩, hw⟩, hb⟩ := hpl2
  obtain ⟨pf, hlen⟩ := frameOk_PF hso hfr
  rw [hsa] at hbi
  rw [hsb] at hbj
  simp only [Option.any_some] at hbi hbj
  refine wp_region_any hm ?_
  have hh : ({ w with drawn := w.drawn + 1 } : World).heap = w.heap := rfl
  have hw' : Rel nb ι H { w with drawn := w.drawn + 1 } := r.same hh
  have hx' : Ext nb ι H w ι H { w with drawn := w.drawn + 1 } := Ext.same rfl
  have hnl : ∀ i, ¬ Lst (Array.replicate ops.size false) i := fun i h => by
    unfold Lst at h
    by_cases hi : i < ops.size
    · simp [Array.getD_eq_getD_getElem?, hi] at h
    · simp [Array.getD_eq_getD_getElem?, hi] at h
  have v0 : Inv P nb nt ops sops bef fr ι H w a.defers ι fr H a { w with drawn := w.drawn + 1 } (Array.replicate ops.size false) [] (fun _ => fr) (fun _ => 0) (fun _ => .iter [] 0) := by
    refine ⟨by simp, fun i h => absurd h (hnl i), fun i h => (by cases h), fun i o _ h => absurd h (hnl i), fun i h => (by cases h), fun t => ?_, hn, rfl, fun t _ => rfl, hw', hx', fun i h => (by cases h), fun i h => (by cases h)⟩
    unfold view
    rw [if_neg]
    · exact hf t
    · rintro ⟨i, s, h, _⟩
      exact hnl i h
  have hext' : extOk bef [] (pln.pre ++ ((phs1.flatMap fun q => q.1 :: q.2.2) ++ [wi, wj])) = true := by rw [← List.append_assoc]; exact hext
  have hext2' : extOk bef [] (pln.pre ++ ((phs1.flatMap fun q => q.1 :: q.2.2) ++ [wj, wi])) = true := by rw [← List.append_assoc]; exact hext2
  have hsm : ∀ i ∈ pln.pre, ∀ s, sops[i]? = some s → s.big = false := fun i hi s hsi => by
    have := List.all_eq_true.1 hpre0 i hi
    rw [hsi] at this
    simpa using this
  obtain ⟨f', G', m', ids', obs', v1, hk, he1⟩ := Inv.takeAll pf pln.pre v0 hext' hsm hpre h
  obtain ⟨_, _, _, _, _, _, _, he2⟩ := Inv.takeAll pf pln.pre v0 hext2' hsm hpre h
  have sub : ∀ i, (i ∈ pln.pre.reverse ++ [] ∨ i ∈ phs1.flatMap fun q => q.1 :: q.2.2) ↔ i ∈ Plan.order ⟨pln.pre, phs1⟩ := fun i => by
    simp only [Plan.order, List.append_nil, List.mem_reverse, List.mem_append]
  refine draw_any2 hgl hcall pf hlen (ι0 := ι) (H0 := H) (w0 := w) (ds := a.defers) (fr0 := fr) (K := K .normal) (out := out) (fun ι' f' G' a' w' g1 g2 g3 g4 g5 g6 => ⟨ι', f', G', g1, g2, g3, g4, g5, g6⟩)
    (fun u x ι' a' w' g1 g2 g3 g4 g5 => ⟨ι', x, u, g1, rfl, g2, g3, g4, g5⟩) hsa hsb hbi hbj ops.size (last := none) v1 he1 he2 (fun i hi hr => ?_) (fun q hq => ?_) (by simpa using hph) hphs (fun i hi => ?_) hk ?_
  · have := List.all_eq_true.1 hb i ((sub i).1 hi)
    rw [hr] at this
    simpa using this
  · have := List.all_eq_true.1 hw q hq
    simpa using this
  · have := List.all_eq_true.1 hcov i (List.mem_range.2 (by omega))
    simp only [Bool.or_eq_true, beq_iff_eq, List.contains_iff_mem] at this
    rcases this with (h | h) | h
    · exact .inl ((sub i).2 h)
    · exact .inr (.inl h)
    · exact .inr (.inr h)
  · unfold Lite.left
    exact Nat.le_trans (List.length_filter_le _ _) (by simp)

theorem loop_sound {c : Code} {body : Fr → Heap → (Ex → Fr → Heap → R) → R} {ds : List Deferred} {K : Ex → Fr → Heap → R} {out : Out × Heap}
    (hb : ∀ (K : Ex → Fr → Heap → R) (ι : Emb) (fr : Fr) (H : Heap) (a : Act) (w : World), FRel nb ι fr a.tmps → a.tmps.size = nt → a.defers = ds → Rel nb ι H w → body fr H K = some out → c.wp P (CodePost nb nt ι H w ds K out) a w) :
    ∀ (n : Nat) {ι : Emb} {fr : Fr} {H : Heap} {a : Act} {w : World}, FRel nb ι fr a.tmps → a.tmps.size = nt → a.defers = ds → Rel nb ι H w → loopN body n fr H K = some out →
    (Code.loop c).wp P (CodePost nb nt ι H w ds K out) a w := by
  intro n ι fr H a w hf hn hd r h
  -- the measure is how many rounds are left; it is a ghost of the frame: the rounds are walked one by one
  have key : ∀ (n : Nat) {ι : Emb} {fr : Fr} {H : Heap} {a : Act} {w : World}, FRel nb ι fr a.tmps → a.tmps.size = nt → a.defers = ds → Rel nb ι H w → loopN body n fr H K = some out →
      ∀ (b : Frame) (k : List Item) (cs : List Frame), ∃ e a' w', CodePost nb nt ι H w ds K out e a' w' ∧ Arrives P (lone (b.at a (.code c :: .inLoop c :: k)) cs w) b k cs e a' w' := by
    intro n
    induction n with
    | zero => intro ι fr H a w _ _ _ _ h; cases h
    | succ n ih =>
      intro ι fr H a w hf hn hd r h b k cs
      have h1 := hb (fun e fr' H' => match e with | .normal => loopN body n fr' H' K | e => K e fr' H') ι fr H a w hf hn hd r h
      obtain ⟨e, a1, w1, hq, harr⟩ := h1 b (.inLoop c :: k) cs
      cases e with
      | normal =>
        obtain ⟨ι', fr', H', g1, g2, g3, g4, g5, g6⟩ := hq
        obtain ⟨e2, a2, w2, hq2, harr2⟩ := ih g1 g2 g3 g4 g6 b k cs
        exact ⟨e2, a2, w2, hq2.ext g5, .of_steps (Steps.trans harr (.one step_inLoop)) harr2⟩
      | exit id => exact ⟨.exit id, a1, w1, hq, .pass (x := .inLoop c) rfl (fun _ _ => .inl (by simp)) harr⟩
      | goto l => exact hq.elim
      | ret => exact ⟨.ret, a1, w1, hq, .pass (x := .inLoop c) rfl (fun _ _ => .inl (by simp)) harr⟩
      | panic ch => exact ⟨.panic ch, a1, w1, hq, .pass (x := .inLoop c) rfl (fun _ _ => .inl (by simp)) harr⟩
      | outgrown => exact hq.elim
  intro b k cs
  obtain ⟨e, a', w', hq, harr⟩ := key n hf hn hd r h b k cs
  exact ⟨e, a', w', hq, .of_steps (.one step_loop) harr⟩

theorem code_sound (hgl : P.globals.size ≤ nb) (hm : P.follows .mixedOrders = true) {call : CallF} (hcall : CallsOk P nb call) {n : Nat} {out : Out × Heap} {ds : List Deferred} :
    ∀ (c : Code) {K : Ex → Fr → Heap → R} {ι : Emb} {fr : Fr} {H : Heap} {a : Act} {w : World}, FRel nb ι fr a.tmps → a.tmps.size = nt → a.defers = ds → Rel nb ι H w →
    (slimCode P nt c).run call n fr H K = some out → c.wp P (CodePost nb nt ι H w ds K out) a w
  | .skip, K, ι, fr, H, a, w, hf, hn, hd, r, h => wp_skip ⟨ι, fr, H, hf, hn, hd, r, Ext.refl, h⟩
  | .region id ops draw, K, ι, fr, H, a, w, hf, hn, hd, r, h => by
    cases draw with
    | false =>
      simp only [slimCode] at h
      rcases orStuck_cases (x := (slimOpers P nt ops ops.toList).map .ops) with ⟨sc, hs, he⟩ | ⟨hs, he⟩
      case inr => rw [he] at h; cases h
      rw [he] at h
      simp only [Option.map_eq_some_iff] at hs
      obtain ⟨qs, hq, rfl⟩ := hs
      refine wp_region (ops_sound hgl hcall (List.range ops.size) (ls := ops.toList) (fun j i hj => ?_) (by simp) hq hf hn hd r Ext.refl h)
      have hlt : j < ops.size := by
        have := (List.getElem?_eq_some_iff.1 hj).1
        simpa using this
      rw [List.getElem?_range hlt] at hj
      simp only [Option.some.injEq] at hj
      subst hj
      exact ⟨ops[j], by simp [hlt], Array.getElem?_eq_getElem hlt⟩
    | true =>
      simp only [slimCode] at h
      rcases orStuck_cases (x := slimDraw P nt ops) with ⟨sc, hs, he⟩ | ⟨hs, he⟩
      case inr => rw [he] at h; cases h
      rw [he] at h
      have : (∃ pre phs, sc = .draw pre phs) ∨ ∃ pre phs a b, sc = .draw2 pre phs a b := by
        simp only [slimDraw, Option.bind_eq_some_iff] at hs
        obtain ⟨sops, _, hs⟩ := hs
        cases hpl : planOk ops.toList sops (befOf ops.toList []) (planOf sops (befOf ops.toList [])) with
        | false =>
          rw [hpl] at hs
          simp only [cond_false, Option.bind_eq_some_iff] at hs
          obtain ⟨q, _, hs⟩ := hs
          cases hpl2 : planOk2 ops.toList sops (befOf ops.toList []) ⟨(planOf sops (befOf ops.toList [])).pre, q.1⟩ q.2.1 q.2.2 with
          | false => rw [hpl2] at hs; cases hs
          | true =>
            rw [hpl2] at hs
            simp only [cond_true, Option.bind_eq_some_iff, Option.map_eq_some_iff] at hs
            obtain ⟨pre', _, phs', _, a', _, b', _, rfl⟩ := hs
            exact .inr ⟨_, _, _, _, rfl⟩
        | true =>
          rw [hpl] at hs
          simp only [cond_true, Option.bind_eq_some_iff, Option.map_eq_some_iff] at hs
          obtain ⟨pre', _, phs', _, rfl⟩ := hs
          exact .inl ⟨_, _, rfl⟩
      subst hd
      rcases this with ⟨pre, phs, rfl⟩ | ⟨pre, phs, sa, sb, rfl⟩
      · exact draw_sound hgl hm hcall hs hf hn r h
      · exact draw2_sound hgl hm hcall hs hf hn r h
  | .seq x y, K, ι, fr, H, a, w, hf, hn, hd, r, h => by
    simp only [slimCode, SCode.run] at h
    have h1 := code_sound hgl hm hcall x hf hn hd r h
    refine wp_seq (wp_mono h1 fun e a' w' hp => ?_)
    cases e <;> simp only [CodePost, Exit.then] at hp ⊢
    case normal =>
      obtain ⟨ι', fr', H', g1, g2, g3, g4, g5, g6⟩ := hp
      exact wp_mono (code_sound hgl hm hcall y g1 g2 g3 g4 g6) fun e a' w' hq => hq.ext g5
    all_goals exact hp
  | .cond c x y, K, ι, fr, H, a, w, hf, hn, hd, r, h => by
    simp only [slimCode] at h
    rcases orStuck_cases (x := (slimX P nt c).map fun c => .cond c (slimCode P nt x) (slimCode P nt y)) with ⟨sc, hs, he⟩ | ⟨hs, he⟩
    case inr => rw [he] at h; cases h
    rw [he] at h
    simp only [Option.map_eq_some_iff] at hs
    obtain ⟨c', hc, rfl⟩ := hs
    simp only [SCode.run, Option.bind_eq_some_iff] at h
    obtain ⟨t, ht, h⟩ := h
    have hcv := (slimX_sound (a := a) hgl hf hc).asBool ht
    refine wp_cond hcv ?_
    cases t
    · exact code_sound hgl hm hcall y hf hn hd r h
    · exact code_sound hgl hm hcall x hf hn hd r h
  | .block id c, K, ι, fr, H, a, w, hf, hn, hd, r, h => by
    simp only [slimCode, SCode.run] at h
    have h1 := code_sound hgl hm hcall c hf hn hd r h
    refine wp_block (wp_mono h1 fun e a' w' hp => ?_)
    cases e <;> simp only [CodePost, Exit.inBlock] at hp ⊢
    case exit i =>
      obtain ⟨ι', fr', H', g1, g2, g3, g4, g5, g6⟩ := hp
      by_cases hi : i = id
      · subst hi
        simp only [Nat.beq_refl, cond_true] at g6
        rw [if_pos rfl]
        exact ⟨ι', fr', H', g1, g2, g3, g4, g5, g6⟩
      · have hbe : Nat.beq i id = false := by
          cases hb : Nat.beq i id with
          | false => rfl
          | true => exact absurd (Nat.eq_of_beq_eq_true hb) hi
        rw [hbe] at g6
        rw [if_neg hi]
        exact ⟨ι', fr', H', g1, g2, g3, g4, g5, g6⟩
    all_goals exact hp
  | .loop c, K, ι, fr, H, a, w, hf, hn, hd, r, h => by
    simp only [slimCode, SCode.run] at h
    exact loop_sound (fun K ι fr H a w g1 g2 g3 g4 g5 => code_sound hgl hm hcall c g1 g2 g3 g4 g5) n hf hn hd r h
  | .exit id, K, ι, fr, H, a, w, hf, hn, hd, r, h => wp_exit ⟨ι, fr, H, hf, hn, hd, r, Ext.refl, h⟩
  | .ret, K, ι, fr, H, a, w, hf, hn, hd, r, h => wp_ret ⟨ι, fr, H, hf, hn, hd, r, Ext.refl, h⟩
  | .rangeFunc _ _ _ _, _, _, _, _, _, _, _, _, _, _, h => by cases h
  | .scope _, _, _, _, _, _, _, _, _, _, _, h => by cases h
  | .label _, _, _, _, _, _, _, _, _, _, _, h => by cases h
  | .goto _, _, _, _, _, _, _, _, _, _, _, h => by cases h
  | .refuse _, _, _, _, _, _, _, _, _, _, _, h => by cases h

/-! ### Functions -/

def readRes (tmps : Array Value) : ResultVar → Sem Value
  | .tmp t => pure (tmps.getD t undef)
  | .cell a t => do loadVar t (← asAddr (tmps.getD a undef))

theorem res_sound (r : Rel nb ι H w) (hf : FRel nb ι fr a.tmps) : ∀ {l : List ResultVar} {rs : List ResV} {vs : List AV}, slimRes P l = some rs → resVals fr H rs = some vs →
    ∃ us : List Value, VRels nb ι vs us ∧ (l.mapM (readRes a.tmps)).run P w = .ok us w
  | [], rs, vs, hs, h => by
    simp only [slimRes, Option.some.injEq] at hs
    subst hs
    simp only [resVals, Option.some.injEq] at h
    subst h
    exact ⟨[], by simp [VRels], rfl⟩
  | .tmp t :: l, rs, vs, hs, h => by
    simp only [slimRes, Option.map_eq_some_iff] at hs
    obtain ⟨rs', hr, rfl⟩ := hs
    simp only [resVals, ResV.val, Option.bind_some, Option.map_eq_some_iff] at h
    obtain ⟨vs', hv, rfl⟩ := h
    obtain ⟨us, hus, hrun⟩ := res_sound r hf hr hv
    refine ⟨a.tmps.getD t undef :: us, by simp only [VRels]; exact ⟨_, _, rfl, hf t, hus⟩, ?_⟩
    simp only [List.mapM_cons, Sem.run_bind, Sem.run_pure, Result.andThen_ok, hrun, readRes]
  | .cell c t :: l, rs, vs, hs, h => by
    simp only [slimRes, Option.bind_eq_some_iff, Option.map_eq_some_iff] at hs
    obtain ⟨g, hgg, s, hsz, rs', hr, rfl⟩ := hs
    simp only [resVals, Option.bind_eq_some_iff, Option.map_eq_some_iff] at h
    obtain ⟨v, hv, vs', hvs, rfl⟩ := h
    obtain ⟨us, hus, hrun⟩ := res_sound r hf hr hvs
    have hagg := run_isAgg (P := P) hgg w
    have hx := hf c
    cases g
    · simp only [cond_false, ResV.val, Option.bind_eq_some_iff] at hv
      obtain ⟨q, hq, hv⟩ := hv
      obtain ⟨lc, hl, hc⟩ := hx.asPtr hq
      obtain ⟨u, hu, hru⟩ := ld1_sound r hl hv
      refine ⟨u :: us, by simp only [VRels]; exact ⟨_, _, rfl, hru, hus⟩, ?_⟩
      have h1 : (readRes a.tmps (.cell c t)).run P w = .ok u w := by
        simp only [readRes, Sem.run_bind, hc, asAddr, Sem.run_pure, Result.andThen_ok, loadVar, hagg, Bool.false_eq_true, if_false, run_load, hu]
      simp only [List.mapM_cons, Sem.run_bind, h1, Sem.run_pure, Result.andThen_ok, hrun]
    · simp only [cond_true, ResV.val, Option.bind_eq_some_iff, Option.map_eq_some_iff] at hv
      obtain ⟨q, hq, xs, hxs, rfl⟩ := hv
      obtain ⟨lc, hl, hc⟩ := hx.asPtr hq
      obtain ⟨_, ws, hwl, hrange, hws⟩ := ldn_sound r hl hxs
      have hld := run_loadCells_list (P := P) w ⟨lc.blk, lc.off + q.2, none⟩ ws (fun j v hv => by rw [Addr.add_mid]; exact hrange j v hv)
      rw [hwl] at hld
      refine ⟨.agg ws.toArray :: us, by simp only [VRels, VRel]; exact ⟨_, _, rfl, ⟨_, rfl, by simpa using hws⟩, hus⟩, ?_⟩
      have h1 : (readRes a.tmps (.cell c t)).run P w = .ok (.agg ws.toArray) w := by
        simp only [readRes, Sem.run_bind, hc, asAddr, Sem.run_pure, Result.andThen_ok, loadVar, hagg, if_true, run_sizeOf hsz, hld]
      simp only [List.mapM_cons, Sem.run_bind, h1, Sem.run_pure, Result.andThen_ok, hrun]

theorem results_sound (r : Rel nb ι H w) (hf : FRel nb ι fr a.tmps) {fn : Func} {rs : List ResV} {vs : List AV} (hs : slimRes P fn.results.toList = some rs) (h : resVals fr H rs = some vs) :
    ∃ u, (results fn a.tmps).run P w = .ok u w ∧ VRel nb ι (oneOr vs) u := by
  obtain ⟨us, hus, hrun⟩ := res_sound r hf hs h
  have hm : (fn.results.mapM (readRes a.tmps)).run P w = .ok us.toArray w := by
    rw [Array.mapM_eq_mapM_toList]
    simp only [Sem.run_map]
    rw [hrun]
    rfl
  have hlen := hus.length
  refine ⟨if h : us.toArray.size = 1 then us.toArray[0] else .tuple us.toArray, ?_, ?_⟩
  · have he : results fn a.tmps = (do let vs ← fn.results.mapM (readRes a.tmps); pure (if h : vs.size = 1 then vs[0] else .tuple vs) : Sem Value) := by
      unfold results
      congr 1
    rw [he, Sem.run_bind, hm]
    rfl
  · cases vs with
    | nil =>
      simp only [VRels] at hus
      subst hus
      simp [oneOr, VRel, VRels]
    | cons v vs =>
      cases vs with
      | nil =>
        simp only [VRels] at hus
        obtain ⟨y, ys, rfl, hy, rfl⟩ := hus
        simpa [oneOr] using hy
      | cons v2 vs =>
        have : ¬ us.toArray.size = 1 := by simp [hlen]
        rw [dif_neg this]
        simp only [oneOr, VRel]
        exact ⟨_, rfl, by simpa using hus⟩

/-- a Lean function in the place of a function's code -/
def OwnOk (P : Program) (nb : NB) (f : FuncId) (g : List AV → Heap → R) : Prop :=
  ∀ (xs : List AV) (args : Array Value) (ι : Emb) (H : Heap) (w : World) (out : Out × Heap), g xs H = some out → VRels nb ι xs args.toList → Rel nb ι H w →
    (∀ w', (callFunc f args).run P w' = .ok (.enter f args) w') ∧ Calls P f args w (CallPost nb ι H w out)

/-- A function's body. -/
theorem body_sound (hgl : P.globals.size ≤ nb) (hm : P.follows .mixedOrders = true) {call : CallF} (hcall : CallsOk P nb call) {n : Nat} {f : FuncId} {fn : Func} {c : Code} {sc : SCode} {rs : List ResV} (hfn : P.funcs[f]? = some fn) (hc : fn.body = some c)
    (hsc : slimCode P fn.ntmps c = sc) (hrs : slimRes P fn.results.toList = some rs) {xs : List AV} {args : Array Value} (hble : xs.length ≤ fn.ntmps) (hxs : VRels nb ι xs args.toList) (r : Rel nb ι H w) {out : Out × Heap}
    (h : sc.run call n (initFr xs) H (finish rs) = some out) : Calls P f args w (CallPost nb ι H w out) := by
  refine calls_of_wp hfn hc ?_
  have hlen := hxs.length
  have hsz : args.size ≤ fn.ntmps := by
    simp at hlen
    omega
  have hf0 : FRel nb ι (initFr xs) (args ++ Array.replicate (fn.ntmps - args.size) undef) := fun t => by
    unfold initFr
    cases hx : xs[t]? with
    | none => simp only [Option.getD_none, VRel]
    | some x =>
      obtain ⟨u, hu, hr⟩ := hxs.get t x hx
      have hlt : t < args.size := by
        have := (List.getElem?_eq_some_iff.1 hu).1
        simpa using this
      have hu' : args[t]? = some u := by simpa using hu
      have : (args ++ Array.replicate (fn.ntmps - args.size) undef).getD t undef = u := by
        rw [Array.getD_eq_getD_getElem?, Array.getElem?_append_left hlt, hu']; rfl
      rw [this]
      exact hr
  subst hsc
  have h1 := code_sound (nt := fn.ntmps) hgl hm hcall (ds := []) c (a := { tmps := args ++ Array.replicate (fn.ntmps - args.size) undef, defers := [] }) hf0 (by simp; omega) rfl r h
  refine wp_mono h1 fun e a' w' hp => ?_
  cases e <;> simp only [CodePost, bodyPost] at hp ⊢
  case normal =>
    obtain ⟨ι', fr', H', g1, g2, g3, g4, g5, g6⟩ := hp
    simp only [finish, Option.map_eq_some_iff] at g6
    obtain ⟨vs, hvs, rfl⟩ := g6
    obtain ⟨u, hu, hr⟩ := results_sound g4 g1 hrs hvs
    exact ⟨g3, u, hu, ι', oneOr vs, rfl, hr, g4, g5⟩
  case ret =>
    obtain ⟨ι', fr', H', g1, g2, g3, g4, g5, g6⟩ := hp
    simp only [finish, Option.map_eq_some_iff] at g6
    obtain ⟨vs, hvs, rfl⟩ := g6
    obtain ⟨u, hu, hr⟩ := results_sound g4 g1 hrs hvs
    exact ⟨g3, u, hu, ι', oneOr vs, rfl, hr, g4, g5⟩
  case exit id =>
    obtain ⟨ι', fr', H', g1, g2, g3, g4, g5, g6⟩ := hp
    simp only [finish, reduceCtorEq] at g6
  case panic ch =>
    obtain ⟨ι', x, v, g1, g2, g3, g4, g5, g6⟩ := hp
    exact ⟨g6, ι', x, v, g1, g2, g3, g4, g5⟩

theorem CallPost.from {ι1 : Emb} {H1 : Heap} {w1 : World} {out : Out × Heap} (e : Ext nb ι H w ι1 H1 w1) {en : Ending} {w' : World} (h : CallPost nb ι1 H1 w1 out en w') : CallPost nb ι H w out en w' := by
  cases en with
  | returned v =>
    obtain ⟨ι', x, g1, g2, g3, g4⟩ := h
    exact ⟨ι', x, g1, g2, g3, e.trans g4⟩
  | panicked c =>
    obtain ⟨ι', x, v, g1, g2, g3, g4, g5⟩ := h
    exact ⟨ι', x, v, g1, g2, g3, g4, e.trans g5⟩
  | outgrown => exact h

/-- A sealed call, from its bare heap. -/
theorem CallPost.opened (r : Rel nb ι H w) {out0 out : Out × Heap} (h : opened H (some out0) = some out) {en : Ending} {w' : World} (hp : CallPost nb ι.bare H.bare w out0 en w') : CallPost nb ι H w out en w' := by
  obtain ⟨o0, H0⟩ := out0
  cases en with
  | returned v =>
    obtain ⟨ι', x, g1, g2, g3, g4⟩ := hp
    simp only [] at g1 g3 g4
    subst g1
    simp only [Lite.opened, Option.map_eq_some_iff] at h
    obtain ⟨⟨y, H2⟩, hy, rfl⟩ := h
    obtain ⟨ι2, r2, e2, v2, p2⟩ := shutV_sound x H0 y H2 ι' w' v hy g2 g3
    obtain ⟨q1, q2⟩ := r.behind r2 (g4.trans e2)
    exact ⟨⟨ι.map, ι2.fz⟩, y, rfl, VRel.mono (ι := ι2.bare) (ι' := ⟨ι.map, ι2.fz⟩) ⟨fun _ _ h => (by cases h), fun _ _ h => h⟩ y v (VRel.pure y v p2 v2), q1, q2⟩
  | panicked c =>
    obtain ⟨ι', x, v, g1, g0, g2, g3, g4⟩ := hp
    simp only [] at g1 g3 g4
    subst g1
    simp only [Lite.opened, Option.map_eq_some_iff] at h
    obtain ⟨⟨y, H2⟩, hy, rfl⟩ := h
    obtain ⟨ι2, r2, e2, v2, p2⟩ := shutV_sound x H0 y H2 ι' w' v hy g2 g3
    obtain ⟨q1, q2⟩ := r.behind r2 (g4.trans e2)
    exact ⟨⟨ι.map, ι2.fz⟩, y, v, rfl, g0, VRel.mono (ι := ι2.bare) (ι' := ⟨ι.map, ι2.fz⟩) ⟨fun _ _ h => (by cases h), fun _ _ h => h⟩ y v (VRel.pure y v p2 v2), q1, q2⟩
  | outgrown => exact hp

/-- A call whose result is told as content. -/
theorem CallPost.settled {out0 out : Out × Heap} (h : settled (some out0) = some out) {en : Ending} {w' : World} (hp : CallPost nb ι H w out0 en w') : CallPost nb ι H w out en w' := by
  obtain ⟨o0, H0⟩ := out0
  cases en with
  | returned v =>
    obtain ⟨ι', x, g1, g2, g3, g4⟩ := hp
    simp only [] at g1 g3 g4
    subst g1
    simp only [Lite.settled, Option.map_eq_some_iff] at h
    obtain ⟨⟨y, H2⟩, hy, rfl⟩ := h
    obtain ⟨ι2, r2, e2, v2, p2⟩ := shutV_sound x H0 y H2 ι' w' v hy g2 g3
    exact ⟨ι2, y, rfl, v2, r2, g4.trans e2⟩
  | panicked c =>
    have hp' := hp
    obtain ⟨ι', x, v, g1, g0, g2, g3, g4⟩ := hp
    simp only [] at g1
    subst g1
    simp only [Lite.settled, Option.some.injEq] at h
    subst h
    exact hp'
  | outgrown => exact hp

theorem callN_sound (hgl : P.globals.size ≤ nb) (hm : P.follows .mixedOrders = true) {own : FuncId → Option (List AV → Heap → R)} (hown : ∀ f g, own f = some g → OwnOk P nb f g) : ∀ (n : Nat) {mode : FuncId → Nat}, CallsOk P nb (callN (slimPrg P own mode) n)
  | 0, _ => fun f xs args ι H w out h _ _ => by cases h
  | n + 1, mode => fun f xs args ι H w out h hxs r => by
    simp only [callN, slimPrg] at h
    split at h
    · rename_i g hg
      exact hown f g hg xs args ι H w out h hxs r
    · split at h
      case h_2 => cases h
      rename_i sf hsf
      simp only [Option.bind_eq_some_iff] at hsf
      obtain ⟨fn, hfn, hsf⟩ := hsf
      unfold slimFunc at hsf
      cases hnm : (fn.name == "runtime.NumGoroutine") with
      | true => rw [hnm] at hsf; cases hsf
      | false =>
        rw [hnm] at hsf
        simp only [cond_false, Option.bind_eq_some_iff, Option.map_eq_some_iff] at hsf
        obtain ⟨c, hc, rs, hrs, rfl⟩ := hsf
        have hnm' : ¬ fn.name = "runtime.NumGoroutine" := by simpa using hnm
        refine ⟨fun w' => ?_, ?_⟩
        · simp [callFunc, hfn, hnm', hc]
        · cases hble : Nat.ble xs.length fn.ntmps with
          | false => rw [hble] at h; cases h
          | true =>
            rw [hble] at h
            simp only [cond_true] at h
            have hle := Nat.le_of_ble_eq_true hble
            split at h
            · exact body_sound hgl hm (callN_sound hgl hm hown n) hfn hc rfl hrs hle hxs r h
            · simp only [Option.bind_eq_some_iff] at h
              obtain ⟨⟨ys, H1⟩, h1, h⟩ := h
              obtain ⟨ι1, r1, e1, v1⟩ := softs_sound xs H ys H1 ι w _ h1 hxs r
              change settled ((slimCode P fn.ntmps c).run (callN (slimPrg P own mode) n) n (initFr ys) H1 (finish rs)) = some out at h
              generalize hrun : (slimCode P fn.ntmps c).run (callN (slimPrg P own mode) n) n (initFr ys) H1 (finish rs) = res at h
              cases res with
              | none => cases h
              | some out0 =>
                have hyl : ys.length ≤ fn.ntmps := by rw [← v1.length, hxs.length]; exact hle
                refine (body_sound hgl hm (callN_sound hgl hm hown n) hfn hc rfl hrs hyl v1 r1 hrun).mono fun en w' hp => ?_
                exact (hp.settled h).from e1
            · simp only [Option.bind_eq_some_iff] at h
              obtain ⟨⟨ys, H1⟩, h1, h⟩ := h
              obtain ⟨ι1, r1, e1, v1⟩ := softs_sound xs H ys H1 ι w _ h1 hxs r
              have hyl : ys.length ≤ fn.ntmps := by rw [← v1.length, hxs.length]; exact hle
              refine (body_sound hgl hm (callN_sound hgl hm hown n) hfn hc rfl hrs hyl v1 r1 h).mono fun en w' hp => ?_
              exact hp.from e1
            · simp only [Option.bind_eq_some_iff] at h
              obtain ⟨⟨ys, H1⟩, h1, h⟩ := h
              obtain ⟨ι1, r1, e1, v1⟩ := softs_sound xs H ys H1 ι w _ h1 hxs r
              have hyl : ys.length ≤ fn.ntmps := by rw [← v1.length, hxs.length]; exact hle
              refine (body_sound hgl hm (callN_sound hgl hm hown n (mode := fun g => bif Nat.beq g f then 2 else mode g)) hfn hc rfl hrs hyl v1 r1 h).mono fun en w' hp => ?_
              exact hp.from e1
            · simp only [Option.bind_eq_some_iff] at h
              obtain ⟨⟨ys, H1⟩, h1, h⟩ := h
              obtain ⟨ι1, r1, e1, v1, p1⟩ := mapHM_sound shutV_sound xs H ys H1 ι w _ h1 hxs r
              change opened H1 ((slimCode P fn.ntmps c).run (callN (slimPrg P own mode) n) n (initFr ys) H1.bare (finish rs)) = some out at h
              generalize hrun : (slimCode P fn.ntmps c).run (callN (slimPrg P own mode) n) n (initFr ys) H1.bare (finish rs) = res at h
              cases res with
              | none => cases h
              | some out0 =>
                have hyl : ys.length ≤ fn.ntmps := by rw [← v1.length, hxs.length]; exact hle
                refine (body_sound hgl hm (callN_sound hgl hm hown n) hfn hc rfl hrs hyl (VRels.pure ys _ p1 v1) r1.bareH hrun).mono fun en w' hp => ?_
                exact (hp.opened r1 h).from e1

end Go.Lite
