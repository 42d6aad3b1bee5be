/-
  slices.Clone, of a list of content: nil or not, it comes to the same content. A Lean function in its place.
-/
import Derived.Test.YtibjdfajafilhaaLSimB
namespace Go.Lite
open Go
set_option linter.unusedVariables false
set_option linter.unusedSimpArgs false
set_option maxRecDepth 100000

/-- the code of slices.Clone, over elements of the type e -/
def cloneCode (e size bytes : Nat) : SFunc := ⟨8, (SCode.seq (SCode.ops [SOper.mk (some 2) none (SOp.p (POp.move (SX.lit AV.nils)))])
  (SCode.seq (SCode.seq (SCode.ops [SOper.mk (some 3) none (SOp.p (POp.move (SX.tmp 0))), SOper.mk (some 4) none (SOp.p (POp.bin BinOp.eql EqT.slc (SX.tmp 3) (SX.lit AV.nils)))])
  (SCode.cond (SX.tmp 4)
  (SCode.seq (SCode.ops [SOper.mk (some 2) none (SOp.p (POp.move (SX.lit AV.nils)))])
  SCode.ret)
  SCode.skip))
  (SCode.seq (SCode.ops [SOper.mk (some 5) none (SOp.a (AOp.buildS [] 0 [])), SOper.mk (some 6) none (SOp.p (POp.move (SX.tmp 0))), SOper.mk (some 7) none (SOp.w (WOp.append e size bytes (SX.tmp 5) (SX.tmp 6))), SOper.mk (some 2) none (SOp.p (POp.move (SX.tmp 7)))])
  SCode.ret))), [ResV.tmp 2]⟩

theorem canon_shut {c y : AV} (h : canon c = some y) (d : Nat) (H : Heap) : shutC d c H = some (y, H) := by
  cases d with
  | zero => simp only [shutC, h, Option.map_some]
  | succ d =>
    unfold shutC
    split
    · simp [canon, AV.pure, Blk.pure] at h
    · simp only [h, Option.map_some]

theorem canonL_shut : ∀ {cs ys : List AV}, canonL cs = some ys → ∀ (d : Nat) (H : Heap), mapHM (shutC d) cs H = some (ys, H)
  | [], ys, h, d, H => by
    simp only [canonL, Option.some.injEq] at h
    subst h; rfl
  | c :: cs, ys, h, d, H => by
    simp only [canonL, Option.bind_eq_some_iff, Option.map_eq_some_iff] at h
    obtain ⟨y, hy, zs, hz, rfl⟩ := h
    simp only [mapHM, canon_shut hy, Option.bind_some, canonL_shut hz, Option.map_some]

theorem Still.canonL {cs : List AV} (h : Still cs) : Lite.canonL cs = some cs := by
  induction cs with
  | nil => rfl
  | cons c cs ih =>
    have h1 : shutC 0 c heap0 = some (c, heap0) := h c (by simp) 0 heap0
    simp only [shutC, Option.map_eq_some_iff, Prod.mk.injEq, and_true] at h1
    obtain ⟨y, hy, rfl⟩ := h1
    simp only [Lite.canonL, hy, Option.bind_some, ih (fun x hx => h x (by simp [hx])), Option.map_some]

def ownClone (es bytes : Nat) (xs : List AV) (H : Heap) : R :=
  (mapHM shutV xs H).bind fun q => match q.1 with
    | [.lst e n f cs] => if (e = es ∨ n = 0) ∧ cs.length = n * e ∧ cs.all AV.flat = true ∧ n * bytes ≤ 1099511627776 ∧ n ≤ 1099511627776 then (canonL cs).map fun r => (.ret (.L true e r n), q.2) else none
    | _ => none

variable {P : Program} {nb : NB}

/-- what the code comes to -/
theorem clone_run {f : FuncId} {e es bytes : Nat} (hes : es ≠ 0) {Q : Prg} (ho : Q.own f = none) (hm : Q.mode f = 0) (hc : Q.code f = some (cloneCode e es bytes)) (H : Heap) :
    callN Q 1 f [.nils] H.bare = some (.ret .nils, H.bare) ∧
    (∃ H', callN Q 1 f [.emp] H.bare = some (.ret (.lst 0 0 true []), H')) ∧
    (∀ n cs r, cs.length = (n + 1) * es → cs.all AV.flat = true → (n + 1) * bytes ≤ 1099511627776 → n + 1 ≤ 1099511627776 → canonL cs = some r →
      ∃ v H', callN Q 1 f [.lst es (n + 1) false cs] H.bare = some (.ret v, H') ∧ ∃ H'', shutV v H' = some (.lst es (n + 1) false r, H'')) := by
  refine ⟨?_, ?_, fun n cs r hl hfl hb hb2 hr => ?_⟩
  · rw [callN_code ho hc hm rfl]
    simp -implicitDefEqProofs only [cloneCode, ↓v_lenS, SB, POp.val, AOp.val, WOp.val, Lite.bin, intBin, strBin, eqv, eqMany, eq1, AV.asBool, AV.asInt, AV.asNat, AV.asPtr, AV.asStr, resVals, ResV.val, oneOr, wants, skipped, fillAt, putAt, capOf, optNat, bnd, Nat.reduceBEq, reduceIte, Nat.reduceAdd, Nat.reduceLeDiff, Nat.reduceEqDiff, Nat.reduceSub, Nat.reduceMul, Nat.reduceDiv, SOper.again, same, sameBlk, sameCap, Nat.reduceBneDiff, s_draw2, s_pair, k_pair, asunder, SOper.into, Bool.not_false, Bool.not_true]
  · rw [callN_code ho hc hm rfl]
    have h1 : ∀ G : Heap, appendOf e es bytes G (.lst 0 0 true []) (0, []) = some (.lst 0 0 true [], G) := fun G => by
      simp [appendOf, hes]
    have h2 : ∀ G : Heap, taken es G .emp = some (0, []) := fun G => rfl
    simp -implicitDefEqProofs only [cloneCode, ↓v_lenS, SB, POp.val, AOp.val, WOp.val, Lite.bin, intBin, strBin, eqv, eqMany, eq1, AV.asBool, AV.asInt, AV.asNat, AV.asPtr, AV.asStr, resVals, ResV.val, oneOr, wants, skipped, fillAt, putAt, capOf, optNat, bnd, Nat.reduceBEq, reduceIte, Nat.reduceAdd, Nat.reduceLeDiff, Nat.reduceEqDiff, Nat.reduceSub, Nat.reduceMul, Nat.reduceDiv, SOper.again, same, sameBlk, sameCap, Nat.reduceBneDiff, s_draw2, s_pair, k_pair, asunder, SOper.into, Bool.not_false, Bool.not_true, h1, h2]
    exact ⟨_, rfl⟩
  · rw [callN_code ho hc hm rfl]
    have h1 : ∀ G : Heap, appendOf e es bytes G (.lst 0 0 true []) (n + 1, cs) = some (G.fresh es (n + 1) (some e) cs) := fun G => by
      simp [appendOf, hes, hfl, hb, hb2]
    have h2 : ∀ G : Heap, taken es G (.lst es (n + 1) false cs) = some (n + 1, cs) := fun G => by simp [taken]
    simp -implicitDefEqProofs only [cloneCode, ↓v_lenS, SB, POp.val, AOp.val, WOp.val, Lite.bin, intBin, strBin, eqv, eqMany, eq1, AV.asBool, AV.asInt, AV.asNat, AV.asPtr, AV.asStr, resVals, ResV.val, oneOr, wants, skipped, fillAt, putAt, capOf, optNat, bnd, Nat.reduceBEq, reduceIte, Nat.reduceAdd, Nat.reduceLeDiff, Nat.reduceEqDiff, Nat.reduceSub, Nat.reduceMul, Nat.reduceDiv, SOper.again, same, sameBlk, sameCap, Nat.reduceBneDiff, s_draw2, s_pair, k_pair, asunder, SOper.into, Bool.not_false, Bool.not_true, h2, h1, Heap.fresh, eqv, rep]
    refine ⟨_, _, rfl, ?_⟩
    have ht : (cs.drop 0).take ((n + 1) * (Cap.gro es).es) = cs := by simp only [Cap.es, List.drop_zero]; rw [← hl, List.take_length]
    have hk : ∀ G : Heap, G.t.get 1 = some (.row cs es false (some e)) → shutC 64 (.slice (.new 1) 0 (n + 1) (.gro es)) G = some (.lst es (n + 1) false r, G.put 1 (.row cs es true (some e))) := fun G hg => by
      rw [shutC, hg, shutRow, ht, if_pos ⟨hl, .inr hes⟩, canonL_shut hr]
      rfl
    exact ⟨_, hk _ (by simp [h_get, h_n, h_nbare])⟩

theorem ownClone_ok (hgl : P.globals.size ≤ nb) (hm : P.follows .mixedOrders = true) {f : FuncId} {e es bytes : Nat} (hes : es ≠ 0) (hc : ∀ own mode, (slimPrg P own mode).code f = some (cloneCode e es bytes)) : OwnOk P nb f (ownClone es bytes) := by
  intro xs args ι H w out h hxs r
  simp only [ownClone, Option.bind_eq_some_iff] at h
  obtain ⟨⟨ys, H1⟩, h1, h⟩ := h
  obtain ⟨ι1, r1, e1, v1, p1⟩ := mapHM_sound shutV_sound xs H ys H1 ι w _ h1 hxs r
  simp only [] at h
  split at h
  case h_2 => cases h
  rename_i a n fl cs
  split at h
  case isFalse => cases h
  rename_i hcond
  obtain ⟨c1, c2, c3, c4, c5⟩ := hcond
  simp only [Option.map_eq_some_iff] at h
  obtain ⟨z, hz, rfl⟩ := h
  simp only [VRels] at v1
  obtain ⟨v, us, hargs, hv, rfl⟩ := v1
  obtain ⟨k1, k2, k3⟩ := clone_run (e := e) (bytes := bytes) hes (Q := slimPrg P (fun _ => none) fun _ => 0) (f := f) rfl rfl (hc _ _) H1
  have S := callN_sound hgl hm (own := fun _ => none) (fun f g h => by cases h) (mode := fun _ => 0) 1 f
  have fin : ∀ (x : AV) (o : Out × Heap), VRel nb ι1.bare x v → callN (slimPrg P (fun _ => none) fun _ => 0) 1 f [x] H1.bare = some o → opened H1 (some o) = some (.ret (.L true a z n), H1) →
      (∀ w', (callFunc f args).run P w' = .ok (.enter f args) w') ∧ Calls P f args w (CallPost nb ι H w (.ret (.L true a z n), H1)) := by
    intro x o hx hrun ho
    obtain ⟨g1, g2⟩ := S [x] args ι1.bare H1.bare w o hrun (by rw [hargs]; simp only [VRels]; exact ⟨v, [], rfl, hx, rfl⟩) r1.bareH
    exact ⟨g1, g2.mono fun en w' hp => (hp.opened r1 ho).from e1⟩
  cases n with
  | zero =>
    simp only [VRel] at hv
    obtain ⟨_, ad, cap, rfl, _, _, h3, _⟩ := hv
    simp only [Nat.zero_mul] at c2
    obtain rfl := List.eq_nil_of_length_eq_zero c2
    simp only [canonL, Option.some.injEq] at hz
    subst hz
    cases ad with
    | none =>
      obtain rfl := h3 rfl
      exact fin .nils _ (by simp only [VRel]) k1 rfl
    | some q =>
      obtain ⟨H', k2⟩ := k2
      exact fin .emp _ (by simp only [VRel]; exact ⟨_, _, rfl⟩) k2 rfl
  | succ n =>
    obtain rfl := c1.resolve_right (by omega)
    obtain ⟨x, H', k4, H'', k5⟩ := k3 n cs z c2 c3 c4 c5 hz
    have hv' : VRel nb ι1.bare (.lst a (n + 1) false cs) v := by
      simp only [VRel, Emb.bare_bare] at hv ⊢
      obtain ⟨h0, ad, cap, rfl, h1, h2, h3, h4⟩ := hv
      exact ⟨h0, ad, cap, rfl, h1, fun e => by simp at e, h3, h4⟩
    refine fin _ _ hv' k4 ?_
    simp only [opened, k5, Option.map_some, AV.L]

/-- a copy of a list is that list -/
theorem ownClone_list {α : Type} {f : Bool} {es bytes : Nat} {g : α → List AV} {l : List α} {H : Heap} (hg : ∀ x, (g x).length = es) (hst : ∀ x, Still (g x)) (hfl : ∀ x, (g x).all AV.flat = true) (hb : l.length * bytes ≤ 1099511627776) (hb2 : l.length ≤ 1099511627776) :
    ownClone es bytes [vList f es g l] H = some (.ret (vList true es g l), H) := by
  unfold ownClone
  simp only [mapHM_cons, mapHM_nil, shutV_vList, Option.bind_some, Option.map_some]
  cases l with
  | nil => simp [vList, AV.L, canonL]
  | cons x l =>
    have h1 : (g x ++ l.flatMap g).length = (l.length + 1) * es := by
      have := flat_len hg (x :: l)
      simpa using this
    have h2 : (g x ++ l.flatMap g).all AV.flat = true := by
      rw [List.all_append, hfl, Bool.true_and, List.all_eq_true]
      intro c hc
      obtain ⟨y, _, hy⟩ := List.mem_flatMap.1 hc
      exact List.all_eq_true.1 (hfl y) c hy
    have h3 : Still (g x ++ l.flatMap g) := (hst x).append (Still.flat hst l)
    simp only [vList_cons]
    rw [if_pos ⟨.inl trivial, h1, h2, by simpa using hb, by simpa using hb2⟩, h3.canonL]
    rfl

/-- .. of a list that grows too -/
theorem ownClone_acc {N : Nat} {α : Type} {e es bytes : Nat} {g : α → List AV} {l : List α} {H : Heap} {v : AV} (hes : es ≠ 0) (hg : ∀ x, (g x).length = es) (hst : ∀ x, Still (g x)) (hfl : ∀ x, (g x).all AV.flat = true) (hb : l.length * bytes ≤ 1099511627776) (hb2 : l.length ≤ 1099511627776)
    (acc : Acc N H e es l.length (l.flatMap g) v) : ∃ H', ownClone es bytes [v] H = some (.ret (vList true es g l), H') ∧ HKeep (blk v) H H' := by
  obtain ⟨H', h1, kp⟩ := acc.shutV hes (Still.flat hst l)
  refine ⟨H', ?_, kp⟩
  have h2 := ownClone_list (f := true) (H := H') hg hst hfl hb hb2
  unfold ownClone at h2 ⊢
  simp only [mapHM_cons, mapHM_nil, h1, shutV_vList, Option.bind_some, Option.map_some] at h2 ⊢
  exact h2

end Go.Lite
