/-
  One operation, in the model and by the interpreter.
-/
import Derived.Test.YtibjdfajafilhaaLCong
import Derived.Test.YtibjdfajafilhaaLOpsX
namespace Go.Lite
open Go
set_option linter.unusedSimpArgs false
set_option linter.unusedVariables false

variable {P : Program} {nb : NB} {ι : Emb} {H : Heap} {w : World} {fr : Fr} {a : Act} {nt : Nat}

/-- What a call comes to. -/
def CallPost (nb : NB) (ι : Emb) (H : Heap) (w : World) (out : Out × Heap) : Ending → World → Prop
  | .returned v, w' => ∃ ι' x, out.1 = .ret x ∧ VRel nb ι' x v ∧ Rel nb ι' out.2 w' ∧ Ext nb ι H w ι' out.2 w'
  | .panicked c, w' => ∃ ι' x v, out.1 = .panic x ∧ c = [{ v, recovered := false }] ∧ VRel nb ι' x v ∧ Rel nb ι' out.2 w' ∧ Ext nb ι H w ι' out.2 w'
  | .outgrown, _ => False

/-- What the interpreter says of calls holds. -/
def CallsOk (P : Program) (nb : NB) (call : CallF) : Prop :=
  ∀ (f : FuncId) (xs : List AV) (args : Array Value) (ι : Emb) (H : Heap) (w : World) (out : Out × Heap), call f xs H = some out → VRels nb ι xs args.toList → Rel nb ι H w →
    (∀ w', (callFunc f args).run P w' = .ok (.enter f args) w') ∧ Calls P f args w (CallPost nb ι H w out)

theorem sop_step {call : CallF} (hcall : CallsOk P nb call) (hg : P.globals.size ≤ nb) (hf : FRel nb ι fr a.tmps) (r : Rel nb ι H w) {o : Oper} {q : SOp} {kk : AV → Heap → R} {out : Out × Heap}
    {next : Act → World → Prop} {Q : Exit → Act → World → Prop} (hs : slimOp P nt o.op = some q) (h : q.run call fr H kk = some out)
    (hnext : ∀ (v : Value) (x : AV) (ι' : Emb) (H' : Heap) (w' : World), VRel nb ι' x v → Rel nb ι' H' w' → Ext nb ι H w ι' H' w' → kk x H' = some out → next (a.put o.dst v) w')
    (hpanic : ∀ (v : Value) (x : AV) (ι' : Emb) (w' : World), out.1 = .panic x → VRel nb ι' x v → Rel nb ι' out.2 w' → Ext nb ι H w ι' out.2 w' → Q (.panic [{ v, recovered := false }]) a w') :
    o.wp P a w next Q := by
  unfold Oper.wp
  unfold slimOp at hs
  split at hs
  · rename_i po hpo
    simp only [Option.some.injEq] at hs; subst hs
    simp only [SOp.run, Option.bind_eq_some_iff] at h
    obtain ⟨z, hz, hk⟩ := h
    obtain ⟨v, w', hrun, hh, hv⟩ := pop_sound hg hf r hpo hz
    rw [hrun, Oper.upon_value]
    exact hnext v z ι H w' hv (r.same hh.heap) (Ext.same hh) hk
  · split at hs
    · rename_i ao hao
      simp only [Option.some.injEq] at hs; subst hs
      simp only [SOp.run, Option.bind_eq_some_iff] at h
      obtain ⟨⟨ob, z⟩, hz, hk⟩ := h
      obtain ⟨v, w', obw, l, hrun, hh, hl, hb, hv⟩ := aop_sound (w := w) hg hf hao hz
      have hnone : ι H.n = none := by
        cases e : ι H.n with
        | none => rfl
        | some q => have := (r.dom _ _ e).2.2; omega
      rw [hrun, Oper.upon_value]
      have hgo : (H.push ob).t.get H.n = some ob := by simp [Heap.push, T.get_set]
      obtain ⟨q1, q2, q3⟩ := ((r.push ob).born hnone hgo hh.heap hl hb).added hgo
      refine hnext v z (ι.add H.n l ob w') (H.push ob) w' (hv _ Emb.add_same (Emb.le_add hnone) q3) q1 (Ext.trans ?_ q2) hk
      · exact Ext.born r hnone hh hl (Nat.le_refl _) (by simp [Heap.push]) (fun j hj => by simp only [Heap.push, T.get_set]; rw [if_neg (by omega)]) rfl
    · split at hs
      · rename_i wo hwo
        simp only [Option.some.injEq] at hs; subst hs
        simp only [SOp.run, Option.bind_eq_some_iff] at h
        obtain ⟨⟨z, H'⟩, hz, hk⟩ := h
        obtain ⟨v, w', ι', q, hrun, hq, hv, hr, he⟩ := wop_sound hg hf r hwo hz
        rw [hrun]
        rcases hq with rfl | ⟨rfl, rfl⟩
        · rw [Oper.upon_value]; exact hnext v z ι' H' w' hv hr he hk
        · rw [Oper.upon_skip]; exact hnext undef z ι' H' w' hv hr he hk
      · split at hs
        · rename_i f args _ hop
          simp only [Option.bind_eq_some_iff, Option.map_eq_some_iff] at hs
          obtain ⟨f', hf', as, has, rfl⟩ := hs
          simp only [SOp.run] at h
          have hfv := slimX_sound (a := a) hg hf hf'
          have hasv := slimXs_sound (a := a) hg hf has
          unfold callV at h
          cases hfe : f'.ev fr <;> rw [hfe] at h <;> simp only [bindR, reduceCtorEq] at h
          rename_i fn caps
          rw [hfe] at hfv
          simp only [VRel] at hfv
          obtain ⟨cs, hfe', hcs⟩ := hfv
          cases hc : call fn (as.map (·.ev fr) ++ caps) H with
          | none => rw [hc] at h; cases h
          | some res =>
            rw [hc] at h
            obtain ⟨h1, h2⟩ := hcall fn _ (args.map a.eval ++ cs) ι H w res hc (by simpa using hasv.append hcs) r
            have hrun : (execOp a.eval o).run P w = .ok (.enter fn (args.map a.eval ++ cs)) w := by
              have := h1 w
              simp [execOp, hop, resolve, hfe', Deferred.ofValue, invoke, this]
            rw [hrun, Oper.upon_enter]
            refine Calls.mono h2 fun e w' he => ?_
            obtain ⟨ro, rH⟩ := res
            cases e with
            | returned v =>
              obtain ⟨ι', x, hro, hv, hr, hext⟩ := he
              simp only [] at hro hr hext
              subst hro
              exact hnext v x ι' rH w' hv hr hext h
            | panicked c =>
              obtain ⟨ι', x, v, hro, rfl, hv, hr, hext⟩ := he
              simp only [] at hro hr hext
              subst hro
              simp only [Option.some.injEq] at h
              subst h
              exact hpanic v x ι' w' rfl hv hr hext
            | outgrown => exact he.elim
        · rename_i x hop
          simp only [Option.map_eq_some_iff] at hs
          obtain ⟨y, hy, rfl⟩ := hs
          have hv := slimX_sound (a := a) hg hf hy
          simp only [SOp.run] at h
          cases hye : y.ev fr <;> rw [hye] at h <;> simp only [Option.some.injEq, reduceCtorEq] at h
          rename_i t z
          subst h
          rw [hye] at hv
          have hv' := hv
          simp only [VRel] at hv'
          obtain ⟨u, hu, hz⟩ := hv'
          have hrun : (execOp a.eval o).run P w = .halt (.panic (.iface t u)) w := by
            simp [execOp, hop, hu, Instr.panic]
          rw [hrun, Oper.upon_panic]
          rw [hu] at hv
          exact hpanic (.iface t u) (.iface t z) ι w rfl hv r Ext.refl
        · cases hs

/-! ### Is it carried out? -/

theorem wanted_sound (hf : FRel nb ι fr a.tmps) (hn : a.tmps.size = nt) {ops : Array Oper} {o : Oper} {g : Option (Nat × Bool)} {b : Bool} (hs : slimGuard nt ops o.guard = some g) (h : wants fr g = some b) :
    Region.wanted o (yielded ops a.tmps) = b := by
  unfold Region.wanted
  cases hg : o.guard with
  | none =>
    rw [hg] at hs
    simp only [slimGuard, Option.some.injEq] at hs
    subst hs
    simp only [wants, Option.some.injEq] at h
    simpa using h
  | some q =>
    obtain ⟨j, want⟩ := q
    rw [hg] at hs
    simp only [slimGuard, Option.bind_eq_some_iff] at hs
    obtain ⟨t, ⟨oj, hoj, hd⟩, hs⟩ := hs
    split at hs
    case isFalse => cases hs
    rename_i hlt
    simp only [Option.some.injEq] at hs
    subst hs
    have hv := hf t
    have htm : a.tmps[t]? = some (a.tmps.getD t undef) := by
      have h1 : t < a.tmps.size := by rw [hn]; exact hlt
      simp [Array.getD, h1]
    simp only [wants] at h
    simp only [yielded, hoj, Option.bind_some, hd, htm]
    cases hx : fr t <;> rw [hx] at h hv <;> first | (cases h; done) | skip
    · rename_i c
      simp only [Option.some.injEq] at h
      simp only [VRel] at hv
      rw [hv, ← h]
      cases c <;> cases want <;> rfl
    · rename_i vs
      cases vs with
      | nil =>
        simp only [Option.some.injEq] at h
        subst h
        simp only [VRel, VRels] at hv
        obtain ⟨l, hl, _⟩ := hv
        rw [hl]
        rfl
      | cons y ys => cases h

end Go.Lite
