/-
  A region whose order is open, with two stores at its end that may come in either order.
-/
import Derived.Test.YtibjdfajafilhaaLDrawD
namespace Go.Lite
open Go
open Classical
set_option linter.unusedSimpArgs false
set_option linter.unusedVariables false

theorem into_inv {o : SOper} {fr : Fr} {k : Nat} (h : o.into fr = some k) : ∃ n a x off, o = ⟨none, none, .w (.store n a x)⟩ ∧ a.ev fr = .ptr (.new k) off := by
  obtain ⟨d, g, op⟩ := o
  unfold SOper.into at h
  cases d with
  | some d => cases h
  | none => cases g with
    | some g => cases h
    | none => cases op with
      | w q => cases q with
        | store n a x =>
          simp only [] at h
          split at h
          · rename_i k' off he
            simp only [Option.some.injEq] at h
            subst h
            exact ⟨n, a, x, off, rfl, he⟩
          · cases h
        | append e s b x y => cases h
        | nextT x => cases h
      | p q => cases h
      | a q => cases h
      | call f l => cases h
      | panic x => cases h

/-- what a store does -/
theorem store_run {call : CallF} {n k off : Nat} {a x : SX} {fr : Fr} {H : Heap} {K : Fr → Heap → R} (he : a.ev fr = .ptr (.new k) off) :
    (SOper.mk none none (.w (.store n a x))).run call fr H K = (x.ev fr).cells.bind fun vs => if vs.length = n ∧ vs.all AV.flat = true then (H.st (.new k) off vs).bind fun H' => K fr H' else none := by
  simp only [SOper.run, wants, Option.bind_some, cond_true, SOp.run, WOp.val, he, AV.asPtr]
  cases hx : (x.ev fr).cells with
  | none => rfl
  | some vs =>
    simp only [Option.bind_some]
    by_cases hc : vs.length = n ∧ vs.all AV.flat = true
    · rw [if_pos hc, if_pos hc]
      cases H.st (.new k) off vs <;> rfl
    · rw [if_neg hc, if_neg hc]; rfl

theorem st_put {H : Heap} {k j off : Nat} {vs : List AV} {H' : Heap} (hkj : k ≠ j) (h : H.st (.new k) off vs = some H') : H'.t.get j = H.t.get j := by
  unfold Heap.st at h
  split at h
  · cases h
  · cases h
  · rename_i k' hk
    simp only [Blk.new.injEq] at hk
    subst hk
    split at h
    · split at h
      · simp only [Option.some.injEq] at h
        subst h
        simp only [Heap.put, T.get_set]
        rw [if_neg (fun e => hkj e.symm)]
      · cases h
    · cases h

theorem st_new {H : Heap} {k off : Nat} {vs : List AV} : H.st (.new k) off vs = match H.t.get k with
    | some (.row cs es false ty) => if off + vs.length ≤ cs.length then some (H.put k (.row (putAt cs off vs) es false ty)) else none
    | _ => none := rfl

theorem st_comm {H : Heap} {k j o u : Nat} {vs ws : List AV} (hkj : k ≠ j) : ((H.st (.new k) o vs).bind fun G => G.st (.new j) u ws) = ((H.st (.new j) u ws).bind fun G => G.st (.new k) o vs) := by
  have key : ∀ (k j o u : Nat) (vs ws : List AV) (A B : Heap), k ≠ j → H.st (.new k) o vs = some A → A.st (.new j) u ws = some B → ∃ C, H.st (.new j) u ws = some C ∧ C.st (.new k) o vs = some B := by
    intro k j o u vs ws A B hkj h1 h2
    have g1 := st_put hkj h1
    rw [st_new, g1] at h2
    rw [st_new] at h1
    split at h1
    case h_2 => cases h1
    rename_i cs es ty hk
    split at h1
    case isFalse => cases h1
    rename_i hl
    simp only [Option.some.injEq] at h1
    subst h1
    split at h2
    case h_2 => cases h2
    rename_i ds fs ty2 hj
    split at h2
    case isFalse => cases h2
    rename_i hl2
    simp only [Option.some.injEq] at h2
    subst h2
    refine ⟨H.put j (.row (putAt ds u ws) fs false ty2), by rw [st_new, hj]; simp only []; rw [if_pos hl2], ?_⟩
    have : (H.put j (.row (putAt ds u ws) fs false ty2)).t.get k = H.t.get k := by
      simp only [Heap.put, T.get_set]
      rw [if_neg hkj]
    rw [st_new, this, hk]
    simp only []
    rw [if_pos hl]
    simp only [Heap.put, Option.some.injEq, Heap.mk.injEq, true_and, and_true]
    exact T.set_comm H.t j k _ _ _ _ (Ne.symm hkj) hj hk
  cases h1 : (H.st (.new k) o vs).bind fun G => G.st (.new j) u ws with
  | some B =>
    obtain ⟨A, hA, hB⟩ := Option.bind_eq_some_iff.1 h1
    obtain ⟨C, hC, hD⟩ := key k j o u vs ws A B hkj hA hB
    rw [hC, Option.bind_some, hD]
  | none =>
    cases h2 : (H.st (.new j) u ws).bind fun G => G.st (.new k) o vs with
    | none => rfl
    | some B =>
      obtain ⟨A, hA, hB⟩ := Option.bind_eq_some_iff.1 h2
      obtain ⟨C, hC, hD⟩ := key j k u o ws vs A B (Ne.symm hkj) hA hB
      rw [hC, Option.bind_some, hD] at h1
      cases h1

theorem asunder_inv {a b : SOper} {fr : Fr} (h : asunder a b fr = true) : ∃ j k, a.into fr = some j ∧ b.into fr = some k ∧ j ≠ k := by
  unfold asunder at h
  split at h
  · rename_i j k hj hk
    refine ⟨j, k, hj, hk, fun e => ?_⟩
    subst e
    simp at h
  · cases h

/-- which comes first does not count -/
theorem asunder_swap {call : CallF} {a b : SOper} {fr : Fr} {H : Heap} {K : Fr → Heap → R} (h : asunder a b fr = true) :
    (a.run call fr H fun fr H => b.run call fr H K) = (b.run call fr H fun fr H => a.run call fr H K) := by
  obtain ⟨j, k, hj, hk, hjk⟩ := asunder_inv h
  obtain ⟨n, p, x, o, rfl, hp⟩ := into_inv hj
  obtain ⟨m, q, y, u, rfl, hq⟩ := into_inv hk
  rw [store_run hp, store_run hq]
  have e1 : (fun G => (SOper.mk none none (.w (.store m q y))).run call fr G K) = fun G => (y.ev fr).cells.bind fun ws => if ws.length = m ∧ ws.all AV.flat = true then (G.st (.new k) u ws).bind fun H' => K fr H' else none := funext fun G => store_run hq
  have e2 : (fun G => (SOper.mk none none (.w (.store n p x))).run call fr G K) = fun G => (x.ev fr).cells.bind fun vs => if vs.length = n ∧ vs.all AV.flat = true then (G.st (.new j) o vs).bind fun H' => K fr H' else none := funext fun G => store_run hp
  simp only [e1, e2]
  cases hx : (x.ev fr).cells with
  | none =>
    simp only [Option.bind_none]
    cases hy : (y.ev fr).cells with
    | none => rfl
    | some ws =>
      simp only [Option.bind_some]
      split
      · cases H.st (.new k) u ws <;> rfl
      · rfl
  | some vs =>
    simp only [Option.bind_some]
    cases hy : (y.ev fr).cells with
    | none =>
      simp only [Option.bind_none]
      split
      · cases H.st (.new j) o vs <;> rfl
      · rfl
    | some ws =>
      simp only [Option.bind_some]
      by_cases c1 : vs.length = n ∧ vs.all AV.flat = true
      · by_cases c2 : ws.length = m ∧ ws.all AV.flat = true
        · simp only [c1, c2, and_self, if_true]
          have := congrArg (fun z => z.bind fun G => K fr G) (st_comm (H := H) (o := o) (u := u) (vs := vs) (ws := ws) hjk)
          simpa only [Option.bind_assoc] using this
        · simp only [c1, c2, and_self, if_true, if_false]
          cases H.st (.new j) o vs <;> rfl
      · by_cases c2 : ws.length = m ∧ ws.all AV.flat = true
        · simp only [c1, c2, and_self, if_true, if_false]
          cases H.st (.new k) u ws <;> rfl
        · simp only [c1, c2, if_false]

variable {P : Program} {nb : NB} {nt : Nat} {ops : Array Oper} {sops : List SOper} {bef : List (List Nat)} {fr0 : Fr} {ι0 : Emb} {H0 : Heap} {w0 : World} {ds : List Deferred}
  {ι : Emb} {f : Fr} {G : Heap} {a : Act} {w : World} {listed : Array Bool} {E : List Nat} {m : Nat → Fr} {ids : Nat → Nat} {obs : Nat → Obj}

theorem ready_all (pf : PF P nt ops sops bef) (hsz : listed.size = ops.size) (hready : Region.ready .any ops listed = []) : ∀ i, i < ops.size → Lst listed i := by
  intro i
  induction i using Nat.strongRecOn with
  | _ i ihi =>
    intro hi
    by_cases hn : Lst listed i
    · exact hn
    · exfalso
      have hr : i ∈ Region.ready .any ops listed := by
        refine mem_ready.2 ⟨?_, ops[i], Array.getElem?_eq_getElem hi, fun e hem hb => ?_⟩
        · have hs : i < listed.size := by rw [hsz]; exact hi
          unfold Lst at hn
          simp [Array.getD_eq_getD_getElem?, hs] at hn ⊢
          exact hn
        · have hd : e.on ∈ edgesOf ops[i] := by
            unfold edgesOf
            exact List.mem_map.2 ⟨e, List.mem_filter.2 ⟨by simpa using hem, hb⟩, rfl⟩
          have hlt := pf.f1 i ops[i] (Array.getElem?_eq_getElem hi) _ hd
          exact ihi e.on hlt (by omega)
      rw [hready] at hr; cases hr

theorem left_zero (hl : Lite.left listed ops.size ≤ 0) : ∀ i, i < ops.size → Lst listed i := fun i hi => by
  have : i ∉ (List.range ops.size).filter fun i => !listed.getD i false := by
    have h0 : (List.range ops.size).filter (fun i => !listed.getD i false) = [] := List.eq_nil_of_length_eq_zero (by unfold Lite.left at hl; omega)
    rw [h0]; simp
  simp only [List.mem_filter, List.mem_range, hi, true_and, Bool.not_eq_true', Bool.not_eq_false] at this
  exact this

/-- The two stores, and what is left beside them. -/
theorem draw_pair (hgl : P.globals.size ≤ nb) {call : CallF} (hcall : CallsOk P nb call) (pf : PF P nt ops sops bef) (hlen : sops.length = ops.size) {K : Fr → Heap → R} {out : Out × Heap} {Q : Exit → Act → World → Prop}
    (hQ : ∀ ι' f' G' a' w', FRel nb ι' f' a'.tmps → a'.tmps.size = nt → a'.defers = ds → Rel nb ι' G' w' → Ext nb ι0 H0 w0 ι' G' w' → K f' G' = some out → Q .normal a' w')
    (hP : ∀ (u : Value) (x : AV) (ι' : Emb) (a' : Act) (w' : World), out.1 = .panic x → VRel nb ι' x u → Rel nb ι' out.2 w' → Ext nb ι0 H0 w0 ι' out.2 w' → a'.defers = ds → Q (.panic [{ v := u, recovered := false }]) a' w')
    {wi wj : Nat} {si sj : SOper} (hsi : sops[wi]? = some si) (hsj : sops[wj]? = some sj) (hbi : si.big = true) (hbj : sj.big = true) :
    ∀ (fuel : Nat) {ι : Emb} {f : Fr} {G : Heap} {a : Act} {w : World} {listed : Array Bool} {E : List Nat} {m : Nat → Fr} {ids : Nat → Nat} {obs : Nat → Obj},
    Inv P nb nt ops sops bef fr0 ι0 H0 w0 ds ι f G a w listed E m ids obs → extOk bef E [wi, wj] = true → extOk bef E [wj, wi] = true →
    (∀ i ∈ E, (sops[i]?).any (fun o => !o.big && o.rereads) = true → i ∈ bef.getD wi [] ∧ i ∈ bef.getD wj []) →
    (∀ i, i < ops.size → i ∈ E ∨ i = wi ∨ i = wj) → asunder si sj f = true → (si.run call f G fun f G => sj.run call f G K) = some out → Lite.left listed ops.size ≤ fuel → wpAny P .any ops Q fuel listed a w := by
  intro fuel
  induction fuel with
  | zero =>
    intro ι f G a w listed E m ids obs v he he' hb hcov has hrun hl
    exact absurd (v.dE wi (left_zero hl wi (by rw [← hlen]; exact (List.getElem?_eq_some_iff.1 hsi).1))) (extOk_not _ he wi (by simp))
  | succ fuel ih =>
    intro ι f G a w listed E m ids obs v he he' hb hcov has hrun hl
    refine ⟨fun hready => absurd (v.dE wi (ready_all pf v.size hready wi (by rw [← hlen]; exact (List.getElem?_eq_some_iff.1 hsi).1))) (extOk_not _ he wi (by simp)), fun i hi => ?_⟩
    obtain ⟨h1, o, ho, hdeps⟩ := mem_ready.1 hi
    have hlt : i < ops.size := (Array.getElem?_eq_some_iff.1 ho).1
    have hn : ¬ Lst listed i := by
      have hs : i < listed.size := by rw [v.size]; exact hlt
      unfold Lst
      simp [Array.getD_eq_getD_getElem?, hs] at h1 ⊢
      exact h1
    have hd : ∀ d ∈ edgesOf o, Lst listed d := fun d hd => by
      unfold edgesOf at hd
      obtain ⟨e, hem, rfl⟩ := List.mem_map.1 hd
      obtain ⟨h2, h3⟩ := List.mem_filter.1 hem
      exact hdeps e (by simpa using h2) h3
    have hls : Lite.left (listed.setIfInBounds i true) ops.size ≤ fuel := by
      have := left_set hlt v.size hn; omega
    by_cases hE : i ∈ E
    · exact v.carry hgl pf ho hE hd hn fun ι' a' w' v' => ih v' he he' hb hcov has hrun hls
    · have hbl := before_done pf v.closed i o ho hd
      -- one of the two is carried out; the other one is left
      have one : ∀ (x y : Nat) (sx sy : SOper), sops[x]? = some sx → sops[y]? = some sy → sy.big = true → extOk bef E [x, y] = true → (∀ i ∈ E, (sops[i]?).any (fun o => !o.big && o.rereads) = true → i ∈ bef.getD x [] ∧ i ∈ bef.getD y []) →
          (∀ i, i < ops.size → i ∈ E ∨ i = x ∨ i = y) → (sx.run call f G fun f G => sy.run call f G K) = some out → sx.big = true → i = x → wpOp P ops Q i (fun a' w' => wpAny P .any ops Q fuel (listed.setIfInBounds i true) a' w') a w := by
        intro x y sx sy hsx hsy hby hex hbb hc hr hbx hix
        subst hix
        obtain ⟨s', hs', hsl⟩ := pf.so i o ho
        obtain rfl : s' = sx := by rw [hsx] at hs'; simpa using hs'.symm
        refine v.write hgl hcall pf ho hsx hsl hE hd hr (fun f' G' hk j hj hjl sj q hsj hq hqr => ?_) (fun ι' f' G' a' w' v' hk => ?_) (fun u x ι' w' h1 h2 h3 h4 => hP u x ι' a w' h1 h2 h3 h4 v.defers)
        · refine absurd (hbl j (hbb j hj ?_).1) hjl
          rw [hsj]
          have hbig : sj.big = false := by unfold SOper.big; rw [hq]
          have hrr : sj.rereads = true := by unfold SOper.rereads; rw [hq]; exact hqr
          simp [hbig, hrr]
        · simp only [extOk, Bool.and_eq_true] at hex
          refine draw_any hgl hcall pf hlen hQ hP fuel (phs := [(y, [], [])]) (phsS := [(sy, [], [])]) (last := none) v' ?_ ?_ ?_ (fun k hk => ?_) ?_ hls
          · simp only [List.flatMap_cons, List.flatMap_nil, List.append_nil, extOk, Bool.and_eq_true]
            exact ⟨⟨hex.2.1.1, hex.2.1.2⟩, trivial⟩
          · simp only [phsOk, Bool.and_eq_true, List.all_eq_true, hsy, Option.any_some, hby, true_and, and_true, List.not_mem_nil, false_implies, implies_true, List.contains_nil, Bool.or_false, Bool.or_eq_true, Bool.not_eq_true', List.contains_iff_mem]
            intro k hk
            rcases List.mem_cons.1 hk with rfl | hk
            · left
              rw [hsx]
              simp [hbx]
            · cases hany : (sops[k]?).any (fun o => !o.big && o.rereads) with
              | false => exact .inl rfl
              | true => exact .inr (hbb k hk hany).2
          · simp only [pickPhs, hsy, pickAll, Option.bind_some, Option.map_some]
          · rcases hc k hk with h | h | h
            · exact .inl (List.mem_cons_of_mem _ h)
            · exact .inl (by rw [h]; simp)
            · exact .inr (by rw [h]; simp)
          · simp only [runPhs, List.all_nil, cond_true, runOps]
            exact hk
      rcases (hcov i hlt).resolve_left hE with h | h
      · exact one wi wj si sj hsi hsj hbj he hb hcov hrun hbi h
      · rw [asunder_swap has] at hrun
        exact one wj wi sj si hsj hsi hbi he' (fun k hk hr => ⟨(hb k hk hr).2, (hb k hk hr).1⟩) (fun k hk => (hcov k hk).imp_right Or.symm) hrun hbj h

/-- The phases, then the two stores. -/
theorem draw_any2 (hgl : P.globals.size ≤ nb) {call : CallF} (hcall : CallsOk P nb call) (pf : PF P nt ops sops bef) (hlen : sops.length = ops.size) {K : Fr → Heap → R} {out : Out × Heap} {Q : Exit → Act → World → Prop}
    (hQ : ∀ ι' f' G' a' w', FRel nb ι' f' a'.tmps → a'.tmps.size = nt → a'.defers = ds → Rel nb ι' G' w' → Ext nb ι0 H0 w0 ι' G' w' → K f' G' = some out → Q .normal a' w')
    (hP : ∀ (u : Value) (x : AV) (ι' : Emb) (a' : Act) (w' : World), out.1 = .panic x → VRel nb ι' x u → Rel nb ι' out.2 w' → Ext nb ι0 H0 w0 ι' out.2 w' → a'.defers = ds → Q (.panic [{ v := u, recovered := false }]) a' w')
    {wi wj : Nat} {si sj : SOper} (hsi : sops[wi]? = some si) (hsj : sops[wj]? = some sj) (hbi : si.big = true) (hbj : sj.big = true) :
    ∀ (fuel : Nat) {phs : List (Nat × List Nat × List Nat)} {phsS : List (SOper × List SOper × List SOper)} {last : Option Nat} {ι : Emb} {f : Fr} {G : Heap} {a : Act} {w : World} {listed : Array Bool} {E : List Nat} {m : Nat → Fr} {ids : Nat → Nat} {obs : Nat → Obj},
    Inv P nb nt ops sops bef fr0 ι0 H0 w0 ds ι f G a w listed E m ids obs → extOk bef E ((phs.flatMap fun q => q.1 :: q.2.2) ++ [wi, wj]) = true → extOk bef E ((phs.flatMap fun q => q.1 :: q.2.2) ++ [wj, wi]) = true →
    (∀ i, (i ∈ E ∨ i ∈ phs.flatMap fun q => q.1 :: q.2.2) → (sops[i]?).any (fun o => !o.big && o.rereads) = true → i ∈ bef.getD wi [] ∧ i ∈ bef.getD wj []) →
    (∀ q ∈ phs, q.1 ∈ bef.getD wi [] ∧ q.1 ∈ bef.getD wj []) → phsOk sops bef E last phs = true → pickPhs sops phs = some phsS →
    (∀ i, i < ops.size → (i ∈ E ∨ i ∈ phs.flatMap fun q => q.1 :: q.2.2) ∨ i = wi ∨ i = wj) →
    runPhs call phsS f G (fun f G => bif asunder si sj f then si.run call f G fun f G => sj.run call f G K else none) = some out → Lite.left listed ops.size ≤ fuel → wpAny P .any ops Q fuel listed a w := by
  intro fuel
  induction fuel with
  | zero =>
    intro phs phsS last ι f G a w listed E m ids obs v he he' hb hw hph hpk hcov hrun hl
    exact absurd (v.dE wi (left_zero hl wi (by rw [← hlen]; exact (List.getElem?_eq_some_iff.1 hsi).1))) (extOk_not _ he wi (by simp))
  | succ fuel ih =>
    intro phs phsS last ι f G a w listed E m ids obs v he he' hb hw hph hpk hcov hrun hl
    cases phs with
    | nil =>
      simp only [pickPhs, Option.some.injEq] at hpk
      subst hpk
      simp only [runPhs] at hrun
      cases has : asunder si sj f with
      | false => rw [has] at hrun; cases hrun
      | true =>
        rw [has] at hrun
        simp only [cond_true] at hrun
        exact draw_pair hgl hcall pf hlen hQ hP hsi hsj hbi hbj (fuel + 1) v (by simpa using he) (by simpa using he') (fun i hi => hb i (.inl hi)) (fun i hi => (hcov i hi).imp_left fun h => h.resolve_right (by simp)) has hrun hl
    | cons q l =>
      obtain ⟨x, cks, sm⟩ := q
      have hx : x ∉ E := extOk_not _ he x (by simp)
      have hxw := hw (x, cks, sm) (by simp)
      refine ⟨fun hready => absurd (v.dE wi (ready_all pf v.size hready wi (by rw [← hlen]; exact (List.getElem?_eq_some_iff.1 hsi).1))) (extOk_not _ he wi (by simp)), fun i hi => ?_⟩
      obtain ⟨h1, o, ho, hdeps⟩ := mem_ready.1 hi
      have hlt : i < ops.size := (Array.getElem?_eq_some_iff.1 ho).1
      have hn : ¬ Lst listed i := by
        have hs : i < listed.size := by rw [v.size]; exact hlt
        unfold Lst
        simp [Array.getD_eq_getD_getElem?, hs] at h1 ⊢
        exact h1
      have hd : ∀ d ∈ edgesOf o, Lst listed d := fun d hd => by
        unfold edgesOf at hd
        obtain ⟨e, hem, rfl⟩ := List.mem_map.1 hd
        obtain ⟨h2, h3⟩ := List.mem_filter.1 hem
        exact hdeps e (by simpa using h2) h3
      have hls : Lite.left (listed.setIfInBounds i true) ops.size ≤ fuel := by
        have := left_set hlt v.size hn; omega
      by_cases hE : i ∈ E
      · exact v.carry hgl pf ho hE hd hn fun ι' a' w' v' => ih v' he he' hb hw hph hpk hcov hrun hls
      · have hbE : ∀ j ∈ bef.getD i [], j ∈ E := fun j hj => v.dE j (before_done pf v.closed i o ho hd j hj)
        have hrem := (hcov i hlt)
        have hnot : ∀ j ∈ ((x, cks, sm) :: l).flatMap fun q => q.1 :: q.2.2, j ∉ E := fun j hj => extOk_not _ he j (List.mem_append_left _ hj)
        simp only [phsOk, Bool.and_eq_true, List.all_eq_true, List.contains_iff_mem] at hph
        obtain ⟨⟨⟨⟨⟨p1, p2⟩, p3⟩, p4⟩, p5⟩, p6⟩ := hph
        obtain rfl : i = x := by
          rcases hrem with (h | h) | h | h
          · exact absurd h hE
          · simp only [List.flatMap_cons, List.cons_append, List.mem_cons, List.mem_append] at h
            rcases h with h | h | h
            · exact h
            · exact absurd (hbE x (p5 i h).2) hx
            · obtain ⟨j, hj, hjn⟩ := phs_wait l p6 hx (fun j hj => hnot j (by simp only [List.flatMap_cons]; exact List.mem_append_right _ hj)) i h
              exact absurd (hbE j hj) hjn
          · subst h; exact absurd (hbE x hxw.1) hx
          · subst h; exact absurd (hbE x hxw.2) hx
        simp only [pickPhs, Option.bind_eq_some_iff, Option.map_eq_some_iff] at hpk
        obtain ⟨s, hs, cs, hcs, ss, hss, ls, hls', rfl⟩ := hpk
        obtain ⟨s', hs', hsl⟩ := pf.so i o ho
        obtain rfl : s' = s := by rw [hs] at hs'; simpa using hs'.symm
        simp only [runPhs] at hrun
        have hbl := before_done pf v.closed i o ho hd
        refine v.write hgl hcall pf ho hs hsl hE hd hrun (fun f' G' hk j hj hjl sj q hsj hq hqr => ?_) (fun ι' f' G' a' w' v' hk => ?_) (fun u x ι' w' h1 h2 h3 h4 => hP u x ι' a w' h1 h2 h3 h4 v.defers)
        · have hcks : cs.all (fun c => c.again f' G') = true := by
            cases hb : cs.all (fun c => c.again f' G') with
            | true => rfl
            | false => rw [hb] at hk; cases hk
          have hjb : j ∉ bef.getD i [] := fun e => hjl (hbl j e)
          have hjc : j ∈ cks := by
            have := p3 j hj
            rw [hsj] at this
            simp only [Option.any_some, Bool.or_eq_true, Bool.not_eq_true', Bool.and_eq_false_iff, Bool.not_eq_false', List.contains_iff_mem] at this
            rcases this with (h | h) | h
            · have hbig : sj.big = false := by unfold SOper.big; rw [hq]
              have hrr : sj.rereads = true := by unfold SOper.rereads; rw [hq]; exact hqr
              rcases h with h | h
              · rw [hbig] at h; cases h
              · rw [hrr] at h; cases h
            · exact absurd h hjb
            · exact h
          have hpick : ∀ (l : List Nat) (ls : List SOper), pickAll sops l = some ls → ∀ j ∈ l, ∀ sj, sops[j]? = some sj → sj ∈ ls := by
            intro l
            induction l with
            | nil => intro _ _ j hj; cases hj
            | cons k l ihl =>
              intro ls hp j hj sj hsj
              simp only [pickAll, Option.bind_eq_some_iff, Option.map_eq_some_iff] at hp
              obtain ⟨sk, hsk, ls', hls', rfl⟩ := hp
              rcases List.mem_cons.1 hj with rfl | hj
              · rw [hsk] at hsj; simp only [Option.some.injEq] at hsj; subst hsj; simp
              · exact List.mem_cons_of_mem _ (ihl ls' hls' j hj sj hsj)
          refine ⟨List.all_eq_true.1 hcks sj (hpick cks cs hcs j hjc sj hsj), fun t ht k sk hsk hkd => ?_⟩
          have h4 := p4 j hjc
          rw [hsj] at h4
          simp only [Option.any_some, Bool.and_eq_true, List.all_eq_true, List.mem_range] at h4
          have := h4.2.2 k (List.getElem?_eq_some_iff.1 hsk).1
          rw [hsk] at this
          simp only [Option.bind_some, hkd] at this
          simp only [Bool.or_eq_true, Bool.not_eq_true', List.contains_iff_mem] at this
          rcases this with h | h
          · rw [List.contains_iff_mem.2 ht] at h; cases h
          · exact h
        · have hcks : cs.all (fun c => c.again f' G') = true := by
            cases hb : cs.all (fun c => c.again f' G') with
            | true => rfl
            | false => rw [hb] at hk; cases hk
          rw [hcks] at hk
          simp only [cond_true] at hk
          have ha : extOk bef (i :: E) (sm ++ ((l.flatMap fun q => q.1 :: q.2.2) ++ [wi, wj])) = true := by
            simp only [List.flatMap_cons, List.cons_append, extOk, Bool.and_eq_true, List.append_assoc] at he
            exact he.2
          have hb' : extOk bef (i :: E) (sm ++ ((l.flatMap fun q => q.1 :: q.2.2) ++ [wj, wi])) = true := by
            simp only [List.flatMap_cons, List.cons_append, extOk, Bool.and_eq_true, List.append_assoc] at he'
            exact he'.2
          obtain ⟨f2, G2, m2, ids2, obs2, v2, hk2, he2⟩ := Inv.takeAll pf sm v' ha (fun j hj sj hsj => by
            have := (p5 j hj).1
            rw [hsj] at this
            simpa using this) hss hk
          obtain ⟨_, _, _, _, _, _, _, he3⟩ := Inv.takeAll pf sm v' hb' (fun j hj sj hsj => by
            have := (p5 j hj).1
            rw [hsj] at this
            simpa using this) hss hk
          have sub : ∀ j, (j ∈ sm.reverse ++ i :: E ∨ j ∈ l.flatMap fun q => q.1 :: q.2.2) ↔ (j ∈ E ∨ j ∈ ((i, cks, sm) :: l).flatMap fun q => q.1 :: q.2.2) := fun j => by
            simp only [List.flatMap_cons, List.cons_append, List.mem_cons, List.mem_append, List.mem_reverse]
            grind
          refine ih v2 he2 he3 (fun j hj => hb j ((sub j).1 hj)) (fun q hq => hw q (List.mem_cons_of_mem _ hq)) p6 hls' (fun j hj => (hcov j hj).imp_left (sub j).2) hk2 hls

end Go.Lite
