/-
  Several texts in one: NLaws, NLawsB, NRight, NFree, NBound, NLawsC.
-/
import Derived.Test.YtlncgbcclmhicaaDoorQnB

/-
  The laws NormStays, NormAll, NormInside, from the contracts.
-/
namespace Go.Lite
open Go Go.Proofs
set_option maxRecDepth 100000
set_option linter.unusedSimpArgs false
set_option linter.unusedVariables false

/-- what the laws ask of a term that was made -/
structure Made (e : X) : Prop where
  fit : e.fit
  apt : e.apt
  few : e.thick < 100
  cnt : (e.nrm 0).2 < 100

theorem Made.of {e : X} {sc : List Str} {m' : Nat} (h1 : e.good sc 0 m') (h2 : e.nodes ≤ 41) (h3 : m' < 100) : Made e := by
  have := thick_le e
  exact ⟨good_fit e sc 0 m' h1 (by omega), good_apt e sc 0 m' h1, by omega, by rw [nrm_count]; omega⟩

theorem few_cases (l : List Raw) (hl : l.length ≤ 9223372036854775807) (hf : Raw.fits l) : (Ret P3 11 [vRaws l] (.bool true) ∧ Raw.cnts l ≤ 40) ∨ Ret P3 11 [vRaws l] (.bool false) := by
  have h := few11 l hl hf
  by_cases hfew : sizeR 13 l ≤ 40
  · rw [decide_eq_true hfew] at h
    exact .inl ⟨h, by rw [← few_cnt 13 l hfew]; exact hfew⟩
  · rw [decide_eq_false hfew] at h
    exact .inr h

set_option maxHeartbeats 1000000 in
theorem law5 (l : List Raw) (hl : l.length ≤ 9223372036854775807) (hf : Raw.fits l) : Ret P3 5 [vRaws l] (.bool true) := by
  refine Ret.of rfl (code5 _ _) rfl rfl (fun H => by simp -implicitDefEqProofs only [↓v_lenS, SB, POp.val, AOp.val, WOp.val, Lite.bin, intBin, strBin, eqv, eqMany, eq1, AV.asBool, AV.asInt, AV.asNat, AV.asPtr, AV.asStr, resVals, ResV.val, oneOr, wants, skipped, fillAt, putAt, capOf, optNat, bnd, Nat.reduceBEq, reduceIte, Nat.reduceAdd, Nat.reduceLeDiff, Nat.reduceEqDiff, Nat.reduceSub, Nat.reduceMul, Nat.reduceDiv, SOper.again, same, sameBlk, sameCap, Nat.reduceBneDiff, s_draw2, s_pair, k_pair, asunder, SOper.into, Bool.not_false, Bool.not_true, shutV_vRaws]) ?_
  rcases few_cases l hl hf with ⟨h11, hc⟩ | h11
  · obtain ⟨e, m', g1, g2, g3, h12⟩ := term12 l hl hf hc
    have md := Made.of g1 g2 g3
    have hx := nrm_is e 0
    have hfx := nrm_fit e md.fit 0
    have h16x := norm16 (e.nrm 0).1 hfx (by rw [nrm_of_is _ hx]; exact Nat.zero_lt_succ 99)
    rw [nrm_of_is _ hx] at h16x
    have hs2 := same15 (e.nrm 0).1 hfx e
    have key : (e.nrm 0).1.same e = e.is := by
      cases hi : e.is with
      | true => rw [nrm_of_is e hi]; exact same_refl' e
      | false =>
        cases hs : (e.nrm 0).1.same e with
        | false => rfl
        | true =>
          rw [same_iff] at hs
          rw [hs] at hx
          rw [hx] at hi; cases hi
    rw [key] at hs2
    have hs1 := same15 (e.nrm 0).1 hfx (e.nrm 0).1
    rw [same_refl'] at hs1
    refine (known10.and (h11.and (h12.and ((norm16 e md.fit md.cnt).and (h16x.and (hs1.and (hs2.and (is13 e md.fit md.apt)))))))).mono fun n hn H => ?_
    obtain ⟨e10, e11, e12, e16, e16x, es1, es2, e13⟩ := hn
    generalize (e.nrm 0).1 = x at *
    obtain ⟨ke, te, ne, le⟩ := e
    obtain ⟨kx, tx, nx, lx⟩ := x
    simp only [X.v_mk] at e12 e16 e16x es1 es2 e13
    generalize (X.mk ke te ne le).is = b at *
    have hb : (b == b) = true := by simp
    simp -implicitDefEqProofs only [c5, ↓v_lenS, SB, POp.val, AOp.val, WOp.val, Lite.bin, intBin, strBin, eqv, eqMany, eq1, AV.asBool, AV.asInt, AV.asNat, AV.asPtr, AV.asStr, resVals, ResV.val, oneOr, wants, skipped, fillAt, putAt, capOf, optNat, bnd, Nat.reduceBEq, reduceIte, Nat.reduceAdd, Nat.reduceLeDiff, Nat.reduceEqDiff, Nat.reduceSub, Nat.reduceMul, Nat.reduceDiv, SOper.again, same, sameBlk, sameCap, Nat.reduceBneDiff, s_draw2, s_pair, k_pair, asunder, SOper.into, Bool.not_false, Bool.not_true, CL, XS, shutV_vRaws, e10, e11, e12, e16, e16x, es1, es2, e13, hb, Ends, gives_ret]
    exact ⟨_, rfl⟩
  · refine (known10.and h11).mono fun n hn H => ?_
    obtain ⟨e10, e11⟩ := hn
    simp -implicitDefEqProofs only [c5, ↓v_lenS, SB, POp.val, AOp.val, WOp.val, Lite.bin, intBin, strBin, eqv, eqMany, eq1, AV.asBool, AV.asInt, AV.asNat, AV.asPtr, AV.asStr, resVals, ResV.val, oneOr, wants, skipped, fillAt, putAt, capOf, optNat, bnd, Nat.reduceBEq, reduceIte, Nat.reduceAdd, Nat.reduceLeDiff, Nat.reduceEqDiff, Nat.reduceSub, Nat.reduceMul, Nat.reduceDiv, SOper.again, same, sameBlk, sameCap, Nat.reduceBneDiff, s_draw2, s_pair, k_pair, asunder, SOper.into, Bool.not_false, Bool.not_true, CL, XS, shutV_vRaws, e10, e11, Ends, gives_ret]
    exact ⟨_, rfl⟩

mutual
/-- of a term and all its parts -/
def X.every (p : X → Prop) : X → Prop
  | .mk k t ns l => p (.mk k t ns l) ∧ X.everys p l
def X.everys (p : X → Prop) : List X → Prop
  | [] => True
  | x :: l => x.every p ∧ X.everys p l
end
theorem everys_iff {p : X → Prop} (l : List X) : X.everys p l ↔ ∀ x ∈ l, x.every p := by
  induction l with
  | nil => simp [X.everys]
  | cons x l ih => rw [X.everys, ih]; simp

theorem every_ev {p : X → Nat → Prop} {q : X → Prop} (hp : ∀ x, q x → Ev (p x)) (hq : ∀ k t ns l, q (.mk k t ns l) → ∀ x ∈ l, q x) : ∀ x, q x → Ev fun n => x.every (p · n) := X.indA fun k t ns l ih h => by
  have := Ev.all l fun x hx => ih x hx (hq k t ns l h x hx)
  refine ((hp _ h).and this).mono fun n hn => ?_
  rw [X.every, everys_iff]
  exact hn

theorem thicks_mem {l : List X} {x : X} (h : x ∈ l) (m i : Nat) : x.thick ≤ X.thicks l m i := by
  induction l generalizing i with
  | nil => cases h
  | cons y l ih =>
    rw [X.thicks]
    rcases List.mem_cons.1 h with rfl | h
    · omega
    · have := ih h (i + 1); omega

theorem Made.part {k : Int} {t : Str} {ns : List Str} {l : List X} (h : Made (.mk k t ns l)) : ∀ x ∈ l, Made x := fun x hx => by
  obtain ⟨f1, f2, f3⟩ := h.fit
  have f3 := (X.fits_iff l).1 f3
  obtain ⟨a1, a2⟩ := h.apt
  have a2 := (X.apts_iff l).1 a2
  have h3 := h.few
  rw [X.thick] at h3
  have := thicks_mem hx ((must k t).getD l.length) 0
  exact ⟨f3 x hx, a2 x hx, by omega, by rw [nrm_count]; omega⟩

set_option maxHeartbeats 1000000 in
theorem law3 (l : List Raw) (q : Int) (hl : l.length ≤ 9223372036854775807) (hf : Raw.fits l) : Ret P3 3 [vRaws l, .int .i64 q] (.bool true) := by
  refine Ret.of rfl (code3 _ _) rfl rfl (fun H => by simp -implicitDefEqProofs only [↓v_lenS, SB, POp.val, AOp.val, WOp.val, Lite.bin, intBin, strBin, eqv, eqMany, eq1, AV.asBool, AV.asInt, AV.asNat, AV.asPtr, AV.asStr, resVals, ResV.val, oneOr, wants, skipped, fillAt, putAt, capOf, optNat, bnd, Nat.reduceBEq, reduceIte, Nat.reduceAdd, Nat.reduceLeDiff, Nat.reduceEqDiff, Nat.reduceSub, Nat.reduceMul, Nat.reduceDiv, SOper.again, same, sameBlk, sameCap, Nat.reduceBneDiff, s_draw2, s_pair, k_pair, asunder, SOper.into, Bool.not_false, Bool.not_true, shutV_vRaws]) ?_
  rcases few_cases l hl hf with ⟨h11, hc⟩ | h11
  · obtain ⟨e, m', g1, g2, g3, h12⟩ := term12 l hl hf hc
    have md := Made.of g1 g2 g3
    have hev : Ev fun n => e.every fun y => Made y ∧ (∀ H, callN P3 n 13 [y.v] H = some (.ret (.bool y.is), H)) ∧ (∀ H, callN P3 n 14 [y.v] H = some (.ret (.bool y.is), H)) ∧ (∀ H, callN P3 n 16 [y.v] H = some (.ret (y.nrm 0).1.v, H)) ∧ (∀ H, callN P3 n 17 [y.v] H = some (.ret (y.nrm 0).1.v, H)) ∧
        (∀ H, callN P3 n 15 [(y.nrm 0).1.v, (y.nrm 0).1.v] H = some (.ret (.bool true), H)) ∧ (∀ k t ns m, y = .mk k t ns m → ∀ i ∈ List.range 5, m ≠ [] → ∀ H, callN P3 n 18 [.int .i64 (IntKind.i64.wrap (q + (i : Int))), .int .i64 m.length] H = some (.ret (.int .i64 (within (IntKind.i64.wrap (q + (i : Int))) m.length)), H)) := by
      refine every_ev (q := Made) (fun y hy => ?_) (fun k t ns m h x hx => h.part x hx) e md
      have hs := same15 (y.nrm 0).1 (nrm_fit y hy.fit 0) (y.nrm 0).1
      rw [same_refl'] at hs
      obtain ⟨k, t, ns, m⟩ := y
      have h18 : Ev fun n => ∀ i ∈ List.range 5, m ≠ [] → ∀ H, callN P3 n 18 [.int .i64 (IntKind.i64.wrap (q + (i : Int))), .int .i64 m.length] H = some (.ret (.int .i64 (within (IntKind.i64.wrap (q + (i : Int))) m.length)), H) := by
        refine Ev.all _ fun i _ => ?_
        by_cases hm : m = []
        · exact Ev.of fun n h => absurd hm h
        · have hm0 : (m.length : Int) ≠ 0 := by have := List.length_pos_iff.2 hm; omega
          exact (run18 (IntKind.i64.wrap (q + (i : Int))) m.length hm0).mono fun n h _ => h
      refine ((is13 _ hy.fit hy.apt).and ((is14 _ hy.fit).and ((norm16 _ hy.fit hy.cnt).and ((norm17 _ hy.fit hy.cnt).and (hs.and h18))))).mono fun n hn => ?_
      obtain ⟨n1, n2, n3, n4, n5, n6⟩ := hn
      refine ⟨hy, n1, n2, n3, n4, n5, fun k' t' ns' m' he i hi hm H => ?_⟩
      simp only [X.mk.injEq] at he
      obtain ⟨rfl, rfl, rfl, rfl⟩ := he
      exact n6 i hi hm H
    refine (known10.and (h11.and (h12.and (hev.and (Ev.ge 10))))).mono fun n hn H => ?_
    obtain ⟨e10, e11, e12, hall, hge⟩ := hn
    have hcell : e.v = .agg e.cells := rfl
    have he4 : e.cells.length = 4 := e.cells_len
    obtain ⟨ke, te, ne, le⟩ := e
    simp only [X.v_mk] at e12
    simp -implicitDefEqProofs only [c3, ↓v_lenS, SB, POp.val, AOp.val, WOp.val, Lite.bin, intBin, strBin, eqv, eqMany, eq1, AV.asBool, AV.asInt, AV.asNat, AV.asPtr, AV.asStr, resVals, ResV.val, oneOr, wants, skipped, fillAt, putAt, capOf, optNat, bnd, Nat.reduceBEq, reduceIte, Nat.reduceAdd, Nat.reduceLeDiff, Nat.reduceEqDiff, Nat.reduceSub, Nat.reduceMul, Nat.reduceDiv, SOper.again, same, sameBlk, sameCap, Nat.reduceBneDiff, s_draw2, s_pair, k_pair, asunder, SOper.into, Bool.not_false, Bool.not_true, CL, XS, shutV_vRaws, e10, e11, e12]
    refine loop_rounds 5 (fun i fr H => ∃ y : X, y.every (fun y => Made y ∧ (∀ H, callN P3 n 13 [y.v] H = some (.ret (.bool y.is), H)) ∧ (∀ H, callN P3 n 14 [y.v] H = some (.ret (.bool y.is), H)) ∧ (∀ H, callN P3 n 16 [y.v] H = some (.ret (y.nrm 0).1.v, H)) ∧ (∀ H, callN P3 n 17 [y.v] H = some (.ret (y.nrm 0).1.v, H)) ∧
        (∀ H, callN P3 n 15 [(y.nrm 0).1.v, (y.nrm 0).1.v] H = some (.ret (.bool true), H)) ∧ (∀ k t ns m, y = .mk k t ns m → ∀ i ∈ List.range 5, m ≠ [] → ∀ H, callN P3 n 18 [.int .i64 (IntKind.i64.wrap (q + (i : Int))), .int .i64 m.length] H = some (.ret (.int .i64 (within (IntKind.i64.wrap (q + (i : Int))) m.length)), H))) ∧
      H.t.get 0 = some (.row y.cells 0 false (some 28)) ∧ fr 1 = .int .i64 q ∧ fr 5 = .ptr (.new 0) 0 ∧ fr 6 = .int .i64 i) ?_ ?_ n 0 _ _ (by omega) (by omega) ?_
    · rintro i fr H K' hi ⟨y, hy, g0, r1, r5, r6⟩ hKe hKr hK
      have hlt : (i : Int) < 5 := by omega
      have hw := wrap_succ hi (by omega)
      obtain ⟨k, t, ns, m⟩ := y
      rw [X.every] at hy
      obtain ⟨⟨md, n1, n2, n3, n4, n5, n6⟩, hsub⟩ := hy
      have n6 := n6 k t ns m rfl i (List.mem_range.2 hi)
      generalize (X.mk k t ns m).nrm 0 = R at *
      obtain ⟨x, c⟩ := R
      obtain ⟨kx, tx, nx, lx⟩ := x
      simp only [X.v_mk] at n1 n2 n3 n4 n5
      rw [X.cells_mk] at g0
      generalize (X.mk k t ns m).is = b at *
      have hb : (b != b) = false := by simp
      by_cases hm : m = []
      · subst hm
        have h0 : (((0 : Nat) : Int) == 0) = true := rfl
        simp -implicitDefEqProofs only [c3_l0, ↓v_lenS, SB, POp.val, AOp.val, WOp.val, Lite.bin, intBin, strBin, eqv, eqMany, eq1, AV.asBool, AV.asInt, AV.asNat, AV.asPtr, AV.asStr, resVals, ResV.val, oneOr, wants, skipped, fillAt, putAt, capOf, optNat, bnd, Nat.reduceBEq, reduceIte, Nat.reduceAdd, Nat.reduceLeDiff, Nat.reduceEqDiff, Nat.reduceSub, Nat.reduceMul, Nat.reduceDiv, SOper.again, same, sameBlk, sameCap, Nat.reduceBneDiff, s_draw2, s_pair, k_pair, asunder, SOper.into, Bool.not_false, Bool.not_true, CL, XS, g0, r1, r5, r6, hlt, n1, n2, n3, n4, n5, hb, h0, hKr, Ends, gives_ret]
        exact ⟨_, rfl⟩
      · have hpos : 0 < m.length := List.length_pos_iff.2 hm
        have hl60 : m.length ≤ 60 := md.fit.2.1
        have n6 := n6 hm
        have h0 : ((m.length : Int) == 0) = false := by rw [beq_eq_false_iff_ne]; omega
        obtain ⟨j0, j1⟩ := within_range (IntKind.i64.wrap (q + (i : Int))) m.length (by omega) (by omega)
        have hj : (within (IntKind.i64.wrap (q + (i : Int))) m.length).toNat < m.length := by omega
        obtain ⟨z, hz⟩ : ∃ z, m[(within (IntKind.i64.wrap (q + (i : Int))) m.length).toNat]? = some z := ⟨_, List.getElem?_eq_getElem hj⟩
        have hz' := hz
        have hsz := (everys_iff m).1 hsub z (List.mem_of_getElem? hz)
        obtain ⟨kz, tz, nz, lz⟩ := z
        simp -implicitDefEqProofs only [c3_l0, ↓v_lenS, SB, POp.val, AOp.val, WOp.val, Lite.bin, intBin, strBin, eqv, eqMany, eq1, AV.asBool, AV.asInt, AV.asNat, AV.asPtr, AV.asStr, resVals, ResV.val, oneOr, wants, skipped, fillAt, putAt, capOf, optNat, bnd, Nat.reduceBEq, reduceIte, Nat.reduceAdd, Nat.reduceLeDiff, Nat.reduceEqDiff, Nat.reduceSub, Nat.reduceMul, Nat.reduceDiv, SOper.again, same, sameBlk, sameCap, Nat.reduceBneDiff, s_draw2, s_pair, k_pair, asunder, SOper.into, Bool.not_false, Bool.not_true, CL, XS, g0, r1, r5, r6, hlt, n1, n2, n3, n4, n5, hb, h0, n6, j0, iaddr_vXs hz, hw]
        refine hK _ _ ⟨.mk kz tz nz lz, hsz, ?_, ?_⟩
        · rw [X.cells_mk, h_gput, if_pos rfl]
        · simp -implicitDefEqProofs only [↓v_lenS, SB, POp.val, AOp.val, WOp.val, Lite.bin, intBin, strBin, eqv, eqMany, eq1, AV.asBool, AV.asInt, AV.asNat, AV.asPtr, AV.asStr, resVals, ResV.val, oneOr, wants, skipped, fillAt, putAt, capOf, optNat, bnd, Nat.reduceBEq, reduceIte, Nat.reduceAdd, Nat.reduceLeDiff, Nat.reduceEqDiff, Nat.reduceSub, Nat.reduceMul, Nat.reduceDiv, SOper.again, same, sameBlk, sameCap, Nat.reduceBneDiff, s_draw2, s_pair, k_pair, asunder, SOper.into, Bool.not_false, Bool.not_true, r1, r5]
    · rintro fr H K' ⟨y, hy, g0, r1, r5, r6⟩ hKe hKr
      have hlt : ¬ ((5 : Nat) : Int) < 5 := by omega
      simp -implicitDefEqProofs only [c3_l0, ↓v_lenS, SB, POp.val, AOp.val, WOp.val, Lite.bin, intBin, strBin, eqv, eqMany, eq1, AV.asBool, AV.asInt, AV.asNat, AV.asPtr, AV.asStr, resVals, ResV.val, oneOr, wants, skipped, fillAt, putAt, capOf, optNat, bnd, Nat.reduceBEq, reduceIte, Nat.reduceAdd, Nat.reduceLeDiff, Nat.reduceEqDiff, Nat.reduceSub, Nat.reduceMul, Nat.reduceDiv, SOper.again, same, sameBlk, sameCap, Nat.reduceBneDiff, s_draw2, s_pair, k_pair, asunder, SOper.into, Bool.not_false, Bool.not_true, XS, r6, hlt, hKe, Ends, gives_ret]
      exact ⟨_, rfl⟩
    · refine ⟨.mk ke te ne le, hall, ?_, ?_⟩
      · rw [X.cells_mk]
        simp -implicitDefEqProofs only [↓v_lenS, SB, POp.val, AOp.val, WOp.val, Lite.bin, intBin, strBin, eqv, eqMany, eq1, AV.asBool, AV.asInt, AV.asNat, AV.asPtr, AV.asStr, resVals, ResV.val, oneOr, wants, skipped, fillAt, putAt, capOf, optNat, bnd, Nat.reduceBEq, reduceIte, Nat.reduceAdd, Nat.reduceLeDiff, Nat.reduceEqDiff, Nat.reduceSub, Nat.reduceMul, Nat.reduceDiv, SOper.again, same, sameBlk, sameCap, Nat.reduceBneDiff, s_draw2, s_pair, k_pair, asunder, SOper.into, Bool.not_false, Bool.not_true]
      · simp -implicitDefEqProofs only [↓v_lenS, SB, POp.val, AOp.val, WOp.val, Lite.bin, intBin, strBin, eqv, eqMany, eq1, AV.asBool, AV.asInt, AV.asNat, AV.asPtr, AV.asStr, resVals, ResV.val, oneOr, wants, skipped, fillAt, putAt, capOf, optNat, bnd, Nat.reduceBEq, reduceIte, Nat.reduceAdd, Nat.reduceLeDiff, Nat.reduceEqDiff, Nat.reduceSub, Nat.reduceMul, Nat.reduceDiv, SOper.again, same, sameBlk, sameCap, Nat.reduceBneDiff, s_draw2, s_pair, k_pair, asunder, SOper.into, Bool.not_false, Bool.not_true]
        rfl
  · refine (known10.and h11).mono fun n hn H => ?_
    obtain ⟨e10, e11⟩ := hn
    simp -implicitDefEqProofs only [c3, ↓v_lenS, SB, POp.val, AOp.val, WOp.val, Lite.bin, intBin, strBin, eqv, eqMany, eq1, AV.asBool, AV.asInt, AV.asNat, AV.asPtr, AV.asStr, resVals, ResV.val, oneOr, wants, skipped, fillAt, putAt, capOf, optNat, bnd, Nat.reduceBEq, reduceIte, Nat.reduceAdd, Nat.reduceLeDiff, Nat.reduceEqDiff, Nat.reduceSub, Nat.reduceMul, Nat.reduceDiv, SOper.again, same, sameBlk, sameCap, Nat.reduceBneDiff, s_draw2, s_pair, k_pair, asunder, SOper.into, Bool.not_false, Bool.not_true, CL, XS, shutV_vRaws, e10, e11, Ends, gives_ret]
    exact ⟨_, rfl⟩

end Go.Lite

/-
  The law NormInside, from the contracts.
-/
namespace Go.Lite
open Go Go.Proofs
set_option maxRecDepth 100000
set_option linter.unusedSimpArgs false
set_option linter.unusedVariables false

/-- a row whose first part is anything, whose other parts are atoms -/
theorem nrm_row {k : Int} {t : Str} {ns : List Str} {e : X} {l : List X} (hm : must k t ≠ some 0) (hl : ∀ x ∈ l, x.is = true ∧ x.atom = true) : (X.mk k t ns (e :: l)).nrm 0 = (.mk k t ns ((e.nrm 0).1 :: l), (e.nrm 0).2) := by
  have h1 : 1 ≤ (must k t).getD (e :: l).length := by
    cases h : must k t with
    | none => simp
    | some m =>
      rw [h] at hm
      rcases must_kind h with ⟨_, rfl⟩ | ⟨_, _, rfl⟩
      · simp
      · exact absurd rfl hm
  generalize hM : (must k t).getD (e :: l).length = M at h1
  have h2 : ∀ i c, X.nrms l M i c = (l, [], c) := fun i c => nrms_of_is l M i c (fun x _ => nrm_of_is x) (fun x hx => (hl x hx).1) (fun j y hy _ => (hl y (List.mem_of_getElem? hy)).2)
  rw [X.nrm, hM, X.nrms, if_neg (by omega), h2]
  rfl

def trueX : X := .mk 2 [35, 116] [] []
theorem trueX_is : trueX.is = true ∧ trueX.atom = true := ⟨by simp [trueX, X.is, X.iss], rfl⟩

def rowX (e : X) : Nat → X
  | 0 => .mk 6 [] [[117]] [e]
  | 1 => .mk 8 [] [] [e, trueX, trueX]
  | 2 => .mk 10 [110, 111, 116] [] [e]
  | 3 => .mk 9 [] [[117]] [e, trueX]
  | _ => .mk 7 [] [] [e, trueX]

theorem rowX_made {e : X} (h : Made e) (j : Nat) : (rowX e j).fit ∧ ((rowX e j).nrm 0).2 < 100 := by
  have ht : trueX.fit := by simp [trueX, X.fit, X.fits]
  have h1 := h.fit
  have h2 := h.cnt
  have ha : ∀ x ∈ [trueX], x.is = true ∧ x.atom = true := fun x hx => by rw [List.mem_singleton.1 hx]; exact trueX_is
  have hb : ∀ x ∈ [trueX, trueX], x.is = true ∧ x.atom = true := fun x hx => by
    simp only [List.mem_cons, List.not_mem_nil, or_false, or_self] at hx; rw [hx]; exact trueX_is
  have hn : ∀ x ∈ ([] : List X), x.is = true ∧ x.atom = true := fun x hx => by cases hx
  unfold rowX
  split
  · exact ⟨⟨by simp, by simp, h1, trivial⟩, by rw [nrm_row (by decide) hn]; exact h2⟩
  · exact ⟨⟨by simp, by simp, h1, ht, ht, trivial⟩, by rw [nrm_row (by decide) hb]; exact h2⟩
  · exact ⟨⟨by simp, by simp, h1, trivial⟩, by rw [nrm_row (by decide) hn]; exact h2⟩
  · exact ⟨⟨by simp, by simp, h1, ht, trivial⟩, by rw [nrm_row (by decide) ha]; exact h2⟩
  · exact ⟨⟨by simp, by simp, h1, ht, trivial⟩, by rw [nrm_row (by decide) ha]; exact h2⟩

theorem rowX_nrm (e : X) (j : Nat) : ((rowX e j).nrm 0).1 = rowX (e.nrm 0).1 j := by
  have ha : ∀ x ∈ [trueX], x.is = true ∧ x.atom = true := fun x hx => by rw [List.mem_singleton.1 hx]; exact trueX_is
  have hb : ∀ x ∈ [trueX, trueX], x.is = true ∧ x.atom = true := fun x hx => by
    simp only [List.mem_cons, List.not_mem_nil, or_false, or_self] at hx; rw [hx]; exact trueX_is
  have hn : ∀ x ∈ ([] : List X), x.is = true ∧ x.atom = true := fun x hx => by cases hx
  match j with
  | 0 => simp only [rowX]; rw [nrm_row (by decide) hn]
  | 1 => simp only [rowX]; rw [nrm_row (by decide) hb]
  | 2 => simp only [rowX]; rw [nrm_row (by decide) hn]
  | 3 => simp only [rowX]; rw [nrm_row (by decide) ha]
  | j + 4 => simp only [rowX]; rw [nrm_row (by decide) ha]

theorem trueX_cells : trueX.cells = [.int .i64 2, .str [35, 116], .lst 0 0 true [], .lst 0 0 true []] := by
  simp only [trueX, X.cells_mk, vStrs_nil, vXs_nil]
theorem vXs_one (x : X) : vXs [x] = .lst 4 1 false x.cells := by
  simp only [vXs, vList_cons, List.flatMap_nil, List.append_nil, List.length_nil]
theorem vXs_three (x y z : X) : vXs [x, y, z] = .lst 4 3 false (x.cells ++ (y.cells ++ z.cells)) := by
  simp only [vXs, vList_cons, List.flatMap_cons, List.flatMap_nil, List.append_nil, List.length_cons, List.length_nil]

set_option maxHeartbeats 4000000 in
theorem law8 (l : List Raw) (q : Int) (hl : l.length ≤ 9223372036854775807) (hf : Raw.fits l) : Ret P3 8 [vRaws l, .int .i64 q] (.bool true) := by
  refine Ret.of rfl (code8 _ _) rfl rfl (fun H => by simp -implicitDefEqProofs only [↓v_lenS, SB, POp.val, AOp.val, WOp.val, Lite.bin, intBin, strBin, eqv, eqMany, eq1, AV.asBool, AV.asInt, AV.asNat, AV.asPtr, AV.asStr, resVals, ResV.val, oneOr, wants, skipped, fillAt, putAt, capOf, optNat, bnd, Nat.reduceBEq, reduceIte, Nat.reduceAdd, Nat.reduceLeDiff, Nat.reduceEqDiff, Nat.reduceSub, Nat.reduceMul, Nat.reduceDiv, SOper.again, same, sameBlk, sameCap, Nat.reduceBneDiff, s_draw2, s_pair, k_pair, asunder, SOper.into, Bool.not_false, Bool.not_true, shutV_vRaws]) ?_
  rcases few_cases l hl hf with ⟨h11, hc⟩ | h11
  · obtain ⟨e, m', g1, g2, g3, h12⟩ := term12 l hl hf hc
    have md := Made.of g1 g2 g3
    have hs := same15 (e.nrm 0).1 (nrm_fit e md.fit 0) (e.nrm 0).1
    rw [same_refl'] at hs
    obtain ⟨j0, j1⟩ := within_range q 5 (by decide) (by decide)
    obtain ⟨j, hj⟩ : ∃ j : Nat, within q 5 = j := ⟨(within q 5).toNat, by omega⟩
    have h18 := run18 q 5 (by decide)
    rw [hj] at h18 j1
    obtain ⟨r1, r2⟩ := rowX_made md j
    have h16r := norm16 (rowX e j) r1 r2
    rw [rowX_nrm] at h16r
    have h27 := bind27 [117] e trueX
    have hj5 : j = 0 ∨ j = 1 ∨ j = 2 ∨ j = 3 ∨ j = 4 := by omega
    refine (known10.and (h11.and (h12.and ((norm16 e md.fit md.cnt).and (h16r.and (hs.and (h18.and h27))))))).mono fun n hn H => ?_
    obtain ⟨e10, e11, e12, e16, e16r, es, e18, e27⟩ := hn
    generalize (e.nrm 0).1 = x at *
    obtain ⟨ke, te, ne, le⟩ := e
    obtain ⟨kx, tx, nx, lx⟩ := x
    have h5 : ((5 : Nat) : Int) = 5 := rfl
    have l0 : (0 : Nat) < 5 := by decide
    have l1 : (1 : Nat) < 5 := by decide
    have l2 : (2 : Nat) < 5 := by decide
    have l3 : (3 : Nat) < 5 := by decide
    have l4 : (4 : Nat) < 5 := by decide
    have p1 : (0 : Nat) < 1 := by decide
    have p2 : (0 : Nat) < 2 := by decide
    have p3 : (0 : Nat) < 3 := by decide
    have i1 : ((1 : Nat) : Int) > 0 := by decide
    have i2 : ((2 : Nat) : Int) > 0 := by decide
    have i3 : ((3 : Nat) : Int) > 0 := by decide
    have b1 : (((1 : Nat) : Int) == ((1 : Nat) : Int)) = true := rfl
    have b2 : (((2 : Nat) : Int) == ((2 : Nat) : Int)) = true := rfl
    have b3 : (((3 : Nat) : Int) == ((3 : Nat) : Int)) = true := rfl
    rcases hj5 with rfl | rfl | rfl | rfl | rfl
    all_goals
      simp only [rowX, X.v_mk, trueX_cells, trueX, bindX, vXs_one, vXs_two, vXs_three, vStrs_nil, vXs_nil, vStrs_one, X.cells_mk, List.cons_append, List.nil_append] at e12 e16 e16r es e18 e27
      simp -implicitDefEqProofs only [c8, ↓v_lenS, SB, POp.val, AOp.val, WOp.val, Lite.bin, intBin, strBin, eqv, eqMany, eq1, AV.asBool, AV.asInt, AV.asNat, AV.asPtr, AV.asStr, resVals, ResV.val, oneOr, wants, skipped, fillAt, putAt, capOf, optNat, bnd, Nat.reduceBEq, reduceIte, Nat.reduceAdd, Nat.reduceLeDiff, Nat.reduceEqDiff, Nat.reduceSub, Nat.reduceMul, Nat.reduceDiv, SOper.again, same, sameBlk, sameCap, Nat.reduceBneDiff, s_draw2, s_pair, k_pair, asunder, SOper.into, Bool.not_false, Bool.not_true, CL, XS, shutV_vRaws, e10, e11, e12, e16, es, e18, e27, h5, l0, l1, l2, l3, l4, p1, p2, p3, i1, i2, i3, b1, b2, b3, e16r, Int.toNat_zero, Int.le_refl, Nat.zero_mul, Ends, gives_ret]
      exact ⟨_, rfl⟩
  · refine (known10.and h11).mono fun n hn H => ?_
    obtain ⟨e10, e11⟩ := hn
    simp -implicitDefEqProofs only [c8, ↓v_lenS, SB, POp.val, AOp.val, WOp.val, Lite.bin, intBin, strBin, eqv, eqMany, eq1, AV.asBool, AV.asInt, AV.asNat, AV.asPtr, AV.asStr, resVals, ResV.val, oneOr, wants, skipped, fillAt, putAt, capOf, optNat, bnd, Nat.reduceBEq, reduceIte, Nat.reduceAdd, Nat.reduceLeDiff, Nat.reduceEqDiff, Nat.reduceSub, Nat.reduceMul, Nat.reduceDiv, SOper.again, same, sameBlk, sameCap, Nat.reduceBneDiff, s_draw2, s_pair, k_pair, asunder, SOper.into, Bool.not_false, Bool.not_true, CL, XS, shutV_vRaws, e10, e11, Ends, gives_ret]
    exact ⟨_, rfl⟩

end Go.Lite

/-
  Whether a number's text is right; whether a term is: right terms are.
-/
namespace Go.Lite
open Go Go.Proofs
set_option maxRecDepth 100000
set_option linter.unusedSimpArgs false
set_option linter.unusedVariables false

/-- a number's digits -/
def Digs (d : Str) : Prop := ∀ c ∈ d, 48 ≤ c ∧ c ≤ 57

/-- a number's text: its sign, its digits -/
structure NumTx (t : Str) (neg : Bool) (d : Str) : Prop where
  eq : t = bif neg then 45 :: d else d
  ne : d ≠ []
  len : d.length ≤ 200
  lead : d[0]? = some 48 → t.length = 1
  digs : Digs d

theorem right53 {t d : Str} {neg : Bool} (h : NumTx t neg d) : Ret P3 53 [.str t] (.bool true) := by
  obtain ⟨heq, hne, hlen, hlead, hdig⟩ := h
  refine Ret.of rfl (code53 _ _) rfl rfl (fun H => by simp -implicitDefEqProofs only [↓v_lenS, SB, POp.val, AOp.val, WOp.val, Lite.bin, intBin, strBin, eqv, eqMany, eq1, AV.asBool, AV.asInt, AV.asNat, AV.asPtr, AV.asStr, resVals, ResV.val, oneOr, wants, skipped, fillAt, putAt, capOf, optNat, bnd, Nat.reduceBEq, reduceIte, Nat.reduceAdd, Nat.reduceLeDiff, Nat.reduceEqDiff, Nat.reduceSub, Nat.reduceMul, Nat.reduceDiv, SOper.again, same, sameBlk, sameCap, Nat.reduceBneDiff, s_draw2, s_pair, k_pair, asunder, SOper.into, Bool.not_false, Bool.not_true]) ((Ev.ge 300).mono fun n hge H => ?_)
  obtain ⟨c, ds, rfl⟩ : ∃ c ds, d = c :: ds := by
    cases d with
    | nil => exact absurd rfl hne
    | cons c ds => exact ⟨c, ds, rfl⟩
  have hc := hdig c (by simp)
  have hl : ∀ k (KK : Ex → Fr → Heap → R) (fr : Fr) (H : Heap), fr 3 = .str (c :: ds) → fr 4 = .int .i64 0 → (∀ fr H, Gives (KK (.exit 0) fr H) k) → Gives (loopR (callN P3 n) n c53_l0 n fr H KK) k := by
    intro k KK fr H h3 h4 hend
    refine loop_rounds (c :: ds).length (fun i fr H => fr 3 = .str (c :: ds) ∧ fr 4 = .int .i64 i) ?_ ?_ n 0 _ _ (by omega) (by omega) ⟨h3, h4⟩
    · rintro i fr H K' hi ⟨h3, h4⟩ hKe hKr hK
      obtain ⟨x, hx⟩ : ∃ x, (c :: ds)[i]? = some x := ⟨(c :: ds)[i], List.getElem?_eq_getElem hi⟩
      have hxd := hdig x (List.mem_of_getElem? hx)
      have hlt : (i : Int) < ((c :: ds).length : Int) := by omega
      have hw := wrap_succ hi (by omega)
      have x1 : ¬ (x : Int) < 48 := by omega
      have x2 : ¬ (x : Int) > 57 := by omega
      generalize hD : c :: ds = D at *
      simp -implicitDefEqProofs only [c53_l0, ↓v_lenS, SB, POp.val, AOp.val, WOp.val, Lite.bin, intBin, strBin, eqv, eqMany, eq1, AV.asBool, AV.asInt, AV.asNat, AV.asPtr, AV.asStr, resVals, ResV.val, oneOr, wants, skipped, fillAt, putAt, capOf, optNat, bnd, Nat.reduceBEq, reduceIte, Nat.reduceAdd, Nat.reduceLeDiff, Nat.reduceEqDiff, Nat.reduceSub, Nat.reduceMul, Nat.reduceDiv, SOper.again, same, sameBlk, sameCap, Nat.reduceBneDiff, s_draw2, s_pair, k_pair, asunder, SOper.into, Bool.not_false, Bool.not_true, h3, h4, hlt, hx, hw, x1, x2]
      refine hK _ _ ?_
      simp -implicitDefEqProofs only [↓v_lenS, SB, POp.val, AOp.val, WOp.val, Lite.bin, intBin, strBin, eqv, eqMany, eq1, AV.asBool, AV.asInt, AV.asNat, AV.asPtr, AV.asStr, resVals, ResV.val, oneOr, wants, skipped, fillAt, putAt, capOf, optNat, bnd, Nat.reduceBEq, reduceIte, Nat.reduceAdd, Nat.reduceLeDiff, Nat.reduceEqDiff, Nat.reduceSub, Nat.reduceMul, Nat.reduceDiv, SOper.again, same, sameBlk, sameCap, Nat.reduceBneDiff, s_draw2, s_pair, k_pair, asunder, SOper.into, Bool.not_false, Bool.not_true, h3]
    · rintro fr H K' ⟨h3, h4⟩ hKe hKr
      generalize hD : c :: ds = D at *
      simp -implicitDefEqProofs only [c53_l0, ↓v_lenS, SB, POp.val, AOp.val, WOp.val, Lite.bin, intBin, strBin, eqv, eqMany, eq1, AV.asBool, AV.asInt, AV.asNat, AV.asPtr, AV.asStr, resVals, ResV.val, oneOr, wants, skipped, fillAt, putAt, capOf, optNat, bnd, Nat.reduceBEq, reduceIte, Nat.reduceAdd, Nat.reduceLeDiff, Nat.reduceEqDiff, Nat.reduceSub, Nat.reduceMul, Nat.reduceDiv, SOper.again, same, sameBlk, sameCap, Nat.reduceBneDiff, s_draw2, s_pair, k_pair, asunder, SOper.into, Bool.not_false, Bool.not_true, h3, h4, Int.lt_irrefl, hKe]
      exact hend _ _
  have y1 : ((((c :: ds).length : Nat) : Int) == 0) = false := by rw [beq_eq_false_iff_ne]; simp only [List.length_cons]; omega
  have y2 : ¬ (((c :: ds).length : Nat) : Int) > 200 := by omega
  have y3 : (((c :: ds).length : Nat) : Int) > 0 := by simp only [List.length_cons]; omega
  have y4 : (c :: ds)[0]? = some c := rfl
  have yc : ((c : Int) == 45) = false := by rw [beq_eq_false_iff_ne]; omega
  have hfin : ∀ fr : Fr, fr 3 = .str (c :: ds) → fr 0 = .str t → ((c : Int) == 48) = false ∨ (((c : Int) == 48) = true ∧ ¬ ((t.length : Int) > 1)) := fun fr _ _ => by
    by_cases h48 : c = 48
    · refine .inr ⟨by simp [h48], ?_⟩
      have := hlead (by rw [y4, h48])
      omega
    · exact .inl (by rw [beq_eq_false_iff_ne]; omega)
  have hlead2 : ((c : Int) == 48) = false ∨ (((c : Int) == 48) = true ∧ ¬ ((t.length : Int) > 1)) := by
    by_cases h48 : c = 48
    · refine .inr ⟨by simp [h48], ?_⟩
      have := hlead (by rw [y4, h48])
      omega
    · exact .inl (by rw [beq_eq_false_iff_ne]; omega)
  cases neg with
  | true =>
    simp only [cond_true] at heq
    subst heq
    have z1 : ((((45 :: c :: ds).length : Nat) : Int)) > 0 := by simp only [List.length_cons]; omega
    have z2 : (45 :: c :: ds)[0]? = some 45 := rfl
    have z3 : (((45 : Nat) : Int) == 45) = true := rfl
    have z4 : ((45 :: c :: ds).drop 1).take ((45 :: c :: ds).length - 1) = c :: ds := by simp
    have z5 : 1 ≤ (45 :: c :: ds).length := by simp
    have z6 : Int.toNat 1 = 1 := rfl
    have z7 : (0 : Int) ≤ 1 := by decide
    generalize hD : c :: ds = D at *
    generalize hE : 45 :: D = E at *
    rcases hlead2 with hq | ⟨hq, hq2⟩
    · simp -implicitDefEqProofs only [c53, ↓v_lenS, SB, POp.val, AOp.val, WOp.val, Lite.bin, intBin, strBin, eqv, eqMany, eq1, AV.asBool, AV.asInt, AV.asNat, AV.asPtr, AV.asStr, resVals, ResV.val, oneOr, wants, skipped, fillAt, putAt, capOf, optNat, bnd, Nat.reduceBEq, reduceIte, Nat.reduceAdd, Nat.reduceLeDiff, Nat.reduceEqDiff, Nat.reduceSub, Nat.reduceMul, Nat.reduceDiv, SOper.again, same, sameBlk, sameCap, Nat.reduceBneDiff, s_draw2, s_pair, k_pair, asunder, SOper.into, Bool.not_false, Bool.not_true, z1, z2, z3, z4, z5, z6, z7, y1, y2, y3, y4, hq, Int.toNat_zero, Int.le_refl]
      refine hl _ _ _ _ ?_ ?_ fun fr H => ?_
      · simp -implicitDefEqProofs only [↓v_lenS, SB, POp.val, AOp.val, WOp.val, Lite.bin, intBin, strBin, eqv, eqMany, eq1, AV.asBool, AV.asInt, AV.asNat, AV.asPtr, AV.asStr, resVals, ResV.val, oneOr, wants, skipped, fillAt, putAt, capOf, optNat, bnd, Nat.reduceBEq, reduceIte, Nat.reduceAdd, Nat.reduceLeDiff, Nat.reduceEqDiff, Nat.reduceSub, Nat.reduceMul, Nat.reduceDiv, SOper.again, same, sameBlk, sameCap, Nat.reduceBneDiff, s_draw2, s_pair, k_pair, asunder, SOper.into, Bool.not_false, Bool.not_true]
      · simp -implicitDefEqProofs only [↓v_lenS, SB, POp.val, AOp.val, WOp.val, Lite.bin, intBin, strBin, eqv, eqMany, eq1, AV.asBool, AV.asInt, AV.asNat, AV.asPtr, AV.asStr, resVals, ResV.val, oneOr, wants, skipped, fillAt, putAt, capOf, optNat, bnd, Nat.reduceBEq, reduceIte, Nat.reduceAdd, Nat.reduceLeDiff, Nat.reduceEqDiff, Nat.reduceSub, Nat.reduceMul, Nat.reduceDiv, SOper.again, same, sameBlk, sameCap, Nat.reduceBneDiff, s_draw2, s_pair, k_pair, asunder, SOper.into, Bool.not_false, Bool.not_true]
      · simp -implicitDefEqProofs only [↓v_lenS, SB, POp.val, AOp.val, WOp.val, Lite.bin, intBin, strBin, eqv, eqMany, eq1, AV.asBool, AV.asInt, AV.asNat, AV.asPtr, AV.asStr, resVals, ResV.val, oneOr, wants, skipped, fillAt, putAt, capOf, optNat, bnd, Nat.reduceBEq, reduceIte, Nat.reduceAdd, Nat.reduceLeDiff, Nat.reduceEqDiff, Nat.reduceSub, Nat.reduceMul, Nat.reduceDiv, SOper.again, same, sameBlk, sameCap, Nat.reduceBneDiff, s_draw2, s_pair, k_pair, asunder, SOper.into, Bool.not_false, Bool.not_true, Ends, gives_ret]
        exact ⟨_, rfl⟩
    · simp -implicitDefEqProofs only [c53, ↓v_lenS, SB, POp.val, AOp.val, WOp.val, Lite.bin, intBin, strBin, eqv, eqMany, eq1, AV.asBool, AV.asInt, AV.asNat, AV.asPtr, AV.asStr, resVals, ResV.val, oneOr, wants, skipped, fillAt, putAt, capOf, optNat, bnd, Nat.reduceBEq, reduceIte, Nat.reduceAdd, Nat.reduceLeDiff, Nat.reduceEqDiff, Nat.reduceSub, Nat.reduceMul, Nat.reduceDiv, SOper.again, same, sameBlk, sameCap, Nat.reduceBneDiff, s_draw2, s_pair, k_pair, asunder, SOper.into, Bool.not_false, Bool.not_true, z1, z2, z3, z4, z5, z6, z7, y1, y2, y3, y4, hq, hq2, Int.toNat_zero, Int.le_refl]
      refine hl _ _ _ _ ?_ ?_ fun fr H => ?_
      · simp -implicitDefEqProofs only [↓v_lenS, SB, POp.val, AOp.val, WOp.val, Lite.bin, intBin, strBin, eqv, eqMany, eq1, AV.asBool, AV.asInt, AV.asNat, AV.asPtr, AV.asStr, resVals, ResV.val, oneOr, wants, skipped, fillAt, putAt, capOf, optNat, bnd, Nat.reduceBEq, reduceIte, Nat.reduceAdd, Nat.reduceLeDiff, Nat.reduceEqDiff, Nat.reduceSub, Nat.reduceMul, Nat.reduceDiv, SOper.again, same, sameBlk, sameCap, Nat.reduceBneDiff, s_draw2, s_pair, k_pair, asunder, SOper.into, Bool.not_false, Bool.not_true]
      · simp -implicitDefEqProofs only [↓v_lenS, SB, POp.val, AOp.val, WOp.val, Lite.bin, intBin, strBin, eqv, eqMany, eq1, AV.asBool, AV.asInt, AV.asNat, AV.asPtr, AV.asStr, resVals, ResV.val, oneOr, wants, skipped, fillAt, putAt, capOf, optNat, bnd, Nat.reduceBEq, reduceIte, Nat.reduceAdd, Nat.reduceLeDiff, Nat.reduceEqDiff, Nat.reduceSub, Nat.reduceMul, Nat.reduceDiv, SOper.again, same, sameBlk, sameCap, Nat.reduceBneDiff, s_draw2, s_pair, k_pair, asunder, SOper.into, Bool.not_false, Bool.not_true]
      · simp -implicitDefEqProofs only [↓v_lenS, SB, POp.val, AOp.val, WOp.val, Lite.bin, intBin, strBin, eqv, eqMany, eq1, AV.asBool, AV.asInt, AV.asNat, AV.asPtr, AV.asStr, resVals, ResV.val, oneOr, wants, skipped, fillAt, putAt, capOf, optNat, bnd, Nat.reduceBEq, reduceIte, Nat.reduceAdd, Nat.reduceLeDiff, Nat.reduceEqDiff, Nat.reduceSub, Nat.reduceMul, Nat.reduceDiv, SOper.again, same, sameBlk, sameCap, Nat.reduceBneDiff, s_draw2, s_pair, k_pair, asunder, SOper.into, Bool.not_false, Bool.not_true, Ends, gives_ret]
        exact ⟨_, rfl⟩
  | false =>
    simp only [cond_false] at heq
    subst heq
    generalize hD : c :: ds = D at *
    rcases hlead2 with hq | ⟨hq, hq2⟩
    · simp -implicitDefEqProofs only [c53, ↓v_lenS, SB, POp.val, AOp.val, WOp.val, Lite.bin, intBin, strBin, eqv, eqMany, eq1, AV.asBool, AV.asInt, AV.asNat, AV.asPtr, AV.asStr, resVals, ResV.val, oneOr, wants, skipped, fillAt, putAt, capOf, optNat, bnd, Nat.reduceBEq, reduceIte, Nat.reduceAdd, Nat.reduceLeDiff, Nat.reduceEqDiff, Nat.reduceSub, Nat.reduceMul, Nat.reduceDiv, SOper.again, same, sameBlk, sameCap, Nat.reduceBneDiff, s_draw2, s_pair, k_pair, asunder, SOper.into, Bool.not_false, Bool.not_true, yc, y1, y2, y3, y4, hq, Int.toNat_zero, Int.le_refl]
      refine hl _ _ _ _ ?_ ?_ fun fr H => ?_
      · simp -implicitDefEqProofs only [↓v_lenS, SB, POp.val, AOp.val, WOp.val, Lite.bin, intBin, strBin, eqv, eqMany, eq1, AV.asBool, AV.asInt, AV.asNat, AV.asPtr, AV.asStr, resVals, ResV.val, oneOr, wants, skipped, fillAt, putAt, capOf, optNat, bnd, Nat.reduceBEq, reduceIte, Nat.reduceAdd, Nat.reduceLeDiff, Nat.reduceEqDiff, Nat.reduceSub, Nat.reduceMul, Nat.reduceDiv, SOper.again, same, sameBlk, sameCap, Nat.reduceBneDiff, s_draw2, s_pair, k_pair, asunder, SOper.into, Bool.not_false, Bool.not_true]
      · simp -implicitDefEqProofs only [↓v_lenS, SB, POp.val, AOp.val, WOp.val, Lite.bin, intBin, strBin, eqv, eqMany, eq1, AV.asBool, AV.asInt, AV.asNat, AV.asPtr, AV.asStr, resVals, ResV.val, oneOr, wants, skipped, fillAt, putAt, capOf, optNat, bnd, Nat.reduceBEq, reduceIte, Nat.reduceAdd, Nat.reduceLeDiff, Nat.reduceEqDiff, Nat.reduceSub, Nat.reduceMul, Nat.reduceDiv, SOper.again, same, sameBlk, sameCap, Nat.reduceBneDiff, s_draw2, s_pair, k_pair, asunder, SOper.into, Bool.not_false, Bool.not_true]
      · simp -implicitDefEqProofs only [↓v_lenS, SB, POp.val, AOp.val, WOp.val, Lite.bin, intBin, strBin, eqv, eqMany, eq1, AV.asBool, AV.asInt, AV.asNat, AV.asPtr, AV.asStr, resVals, ResV.val, oneOr, wants, skipped, fillAt, putAt, capOf, optNat, bnd, Nat.reduceBEq, reduceIte, Nat.reduceAdd, Nat.reduceLeDiff, Nat.reduceEqDiff, Nat.reduceSub, Nat.reduceMul, Nat.reduceDiv, SOper.again, same, sameBlk, sameCap, Nat.reduceBneDiff, s_draw2, s_pair, k_pair, asunder, SOper.into, Bool.not_false, Bool.not_true, Ends, gives_ret]
        exact ⟨_, rfl⟩
    · simp -implicitDefEqProofs only [c53, ↓v_lenS, SB, POp.val, AOp.val, WOp.val, Lite.bin, intBin, strBin, eqv, eqMany, eq1, AV.asBool, AV.asInt, AV.asNat, AV.asPtr, AV.asStr, resVals, ResV.val, oneOr, wants, skipped, fillAt, putAt, capOf, optNat, bnd, Nat.reduceBEq, reduceIte, Nat.reduceAdd, Nat.reduceLeDiff, Nat.reduceEqDiff, Nat.reduceSub, Nat.reduceMul, Nat.reduceDiv, SOper.again, same, sameBlk, sameCap, Nat.reduceBneDiff, s_draw2, s_pair, k_pair, asunder, SOper.into, Bool.not_false, Bool.not_true, yc, y1, y2, y3, y4, hq, hq2, Int.toNat_zero, Int.le_refl]
      refine hl _ _ _ _ ?_ ?_ fun fr H => ?_
      · simp -implicitDefEqProofs only [↓v_lenS, SB, POp.val, AOp.val, WOp.val, Lite.bin, intBin, strBin, eqv, eqMany, eq1, AV.asBool, AV.asInt, AV.asNat, AV.asPtr, AV.asStr, resVals, ResV.val, oneOr, wants, skipped, fillAt, putAt, capOf, optNat, bnd, Nat.reduceBEq, reduceIte, Nat.reduceAdd, Nat.reduceLeDiff, Nat.reduceEqDiff, Nat.reduceSub, Nat.reduceMul, Nat.reduceDiv, SOper.again, same, sameBlk, sameCap, Nat.reduceBneDiff, s_draw2, s_pair, k_pair, asunder, SOper.into, Bool.not_false, Bool.not_true]
      · simp -implicitDefEqProofs only [↓v_lenS, SB, POp.val, AOp.val, WOp.val, Lite.bin, intBin, strBin, eqv, eqMany, eq1, AV.asBool, AV.asInt, AV.asNat, AV.asPtr, AV.asStr, resVals, ResV.val, oneOr, wants, skipped, fillAt, putAt, capOf, optNat, bnd, Nat.reduceBEq, reduceIte, Nat.reduceAdd, Nat.reduceLeDiff, Nat.reduceEqDiff, Nat.reduceSub, Nat.reduceMul, Nat.reduceDiv, SOper.again, same, sameBlk, sameCap, Nat.reduceBneDiff, s_draw2, s_pair, k_pair, asunder, SOper.into, Bool.not_false, Bool.not_true]
      · simp -implicitDefEqProofs only [↓v_lenS, SB, POp.val, AOp.val, WOp.val, Lite.bin, intBin, strBin, eqv, eqMany, eq1, AV.asBool, AV.asInt, AV.asNat, AV.asPtr, AV.asStr, resVals, ResV.val, oneOr, wants, skipped, fillAt, putAt, capOf, optNat, bnd, Nat.reduceBEq, reduceIte, Nat.reduceAdd, Nat.reduceLeDiff, Nat.reduceEqDiff, Nat.reduceSub, Nat.reduceMul, Nat.reduceDiv, SOper.again, same, sameBlk, sameCap, Nat.reduceBneDiff, s_draw2, s_pair, k_pair, asunder, SOper.into, Bool.not_false, Bool.not_true, Ends, gives_ret]
        exact ⟨_, rfl⟩

theorem intT_num {t : Str} (h : t ∈ intT) : ∃ neg d, NumTx t neg d := by
  have hd : ∀ (d : Str), (d.all fun c => decide (48 ≤ c) && decide (c ≤ 57)) = true → Digs d := fun d h c hc => by
    have := List.all_eq_true.1 h c hc
    simpa using this
  simp only [intT, List.mem_cons, List.not_mem_nil, or_false] at h
  rcases h with rfl | rfl | rfl | rfl | rfl | rfl | rfl | rfl | rfl
  · exact ⟨false, [48], rfl, by simp, by simp, by simp, hd _ (by decide)⟩
  · exact ⟨false, [49], rfl, by simp, by simp, by simp, hd _ (by decide)⟩
  · exact ⟨false, [50], rfl, by simp, by simp, by simp, hd _ (by decide)⟩
  · exact ⟨true, [51], rfl, by simp, by simp, by simp, hd _ (by decide)⟩
  · exact ⟨false, [49, 48], rfl, by simp, by simp, by simp, hd _ (by decide)⟩
  · exact ⟨true, [53], rfl, by simp, by simp, by simp, hd _ (by decide)⟩
  · exact ⟨false, [55], rfl, by simp, by simp, by simp, hd _ (by decide)⟩
  · exact ⟨false, [49, 48, 48, 48, 48, 48, 48, 48, 48, 48, 48, 48, 48, 48, 48, 48, 48, 48, 48, 48, 48], rfl, by simp, by simp, by simp, hd _ (by decide)⟩
  · exact ⟨false, [53], rfl, by simp, by simp, by simp, hd _ (by decide)⟩

set_option maxHeartbeats 2000000 in
theorem shape40 (k : Int) (t : Str) (ns : List Str) (l : List X) (hs : shp k t ns.length l.length) (ho : OnceB ns) (hn : ns.length ≤ 1048576) (hl : l.length ≤ 60) : Ret P3 40 [(X.mk k t ns l).v] (.bool true) := by
  refine Ret.of rfl (code40 _ _) rfl rfl (fun H => by simp -implicitDefEqProofs only [mapHM_nil, mapHM_cons, X.shut, Option.bind_some, Option.map_some]) ?_
  have w0 : IntKind.i64.wrap (((0 : Nat) : Int) + ((0 : Nat) : Int)) = 0 := by rw [wrap64 (by omega) (by omega)]; rfl
  have e0 : (((0 : Nat) : Int) == 0) = true := rfl
  have e1 : (((1 : Nat) : Int) == 1) = true := rfl
  have e3 : (((3 : Nat) : Int) == 3) = true := rfl
  rcases hs with ⟨rfl, ht, h1, h2⟩ | ⟨rfl, ht, h1, h2⟩ | ⟨rfl, ht, h1, h2⟩ | ⟨rfl, ht, h1, h2⟩ | ⟨rfl, ht, h1, h2⟩ | ⟨rfl, ht, h1, h2⟩ | ⟨rfl, ht, h1, h2⟩ | ⟨rfl, ht, h1, h2⟩ | ⟨rfl, ht, h1, h2⟩ | ⟨rfl, h0, h1, h2⟩
  · obtain ⟨neg, d, hd⟩ := intT_num ht
    refine (right53 hd).mono fun n e H => ?_
    simp -implicitDefEqProofs only [c40, ↓v_lenS, SB, POp.val, AOp.val, WOp.val, Lite.bin, intBin, strBin, eqv, eqMany, eq1, AV.asBool, AV.asInt, AV.asNat, AV.asPtr, AV.asStr, resVals, ResV.val, oneOr, wants, skipped, fillAt, putAt, capOf, optNat, bnd, Nat.reduceBEq, reduceIte, Nat.reduceAdd, Nat.reduceLeDiff, Nat.reduceEqDiff, Nat.reduceSub, Nat.reduceMul, Nat.reduceDiv, SOper.again, same, sameBlk, sameCap, Nat.reduceBneDiff, s_draw2, s_pair, k_pair, asunder, SOper.into, Bool.not_false, Bool.not_true, CL, XS, Int.reduceBEq, h1, h2, w0, e, Ends, gives_ret]
    exact ⟨_, rfl⟩
  · refine Ev.of fun n H => ?_
    rcases ht with rfl | rfl
    · have t1 : (([35, 116] : Str) == [35, 116]) = true := rfl
      simp -implicitDefEqProofs only [c40, ↓v_lenS, SB, POp.val, AOp.val, WOp.val, Lite.bin, intBin, strBin, eqv, eqMany, eq1, AV.asBool, AV.asInt, AV.asNat, AV.asPtr, AV.asStr, resVals, ResV.val, oneOr, wants, skipped, fillAt, putAt, capOf, optNat, bnd, Nat.reduceBEq, reduceIte, Nat.reduceAdd, Nat.reduceLeDiff, Nat.reduceEqDiff, Nat.reduceSub, Nat.reduceMul, Nat.reduceDiv, SOper.again, same, sameBlk, sameCap, Nat.reduceBneDiff, s_draw2, s_pair, k_pair, asunder, SOper.into, Bool.not_false, Bool.not_true, CL, XS, Int.reduceBEq, h1, h2, w0, t1, Ends, gives_ret]
      exact ⟨_, rfl⟩
    · have t1 : (([35, 102] : Str) == [35, 116]) = false := rfl
      have t2 : (([35, 102] : Str) == [35, 102]) = true := rfl
      simp -implicitDefEqProofs only [c40, ↓v_lenS, SB, POp.val, AOp.val, WOp.val, Lite.bin, intBin, strBin, eqv, eqMany, eq1, AV.asBool, AV.asInt, AV.asNat, AV.asPtr, AV.asStr, resVals, ResV.val, oneOr, wants, skipped, fillAt, putAt, capOf, optNat, bnd, Nat.reduceBEq, reduceIte, Nat.reduceAdd, Nat.reduceLeDiff, Nat.reduceEqDiff, Nat.reduceSub, Nat.reduceMul, Nat.reduceDiv, SOper.again, same, sameBlk, sameCap, Nat.reduceBneDiff, s_draw2, s_pair, k_pair, asunder, SOper.into, Bool.not_false, Bool.not_true, CL, XS, Int.reduceBEq, h1, h2, w0, t1, t2, Ends, gives_ret]
      exact ⟨_, rfl⟩
  · refine Ev.of fun n H => ?_
    subst ht
    simp -implicitDefEqProofs only [c40, ↓v_lenS, SB, POp.val, AOp.val, WOp.val, Lite.bin, intBin, strBin, eqv, eqMany, eq1, AV.asBool, AV.asInt, AV.asNat, AV.asPtr, AV.asStr, resVals, ResV.val, oneOr, wants, skipped, fillAt, putAt, capOf, optNat, bnd, Nat.reduceBEq, reduceIte, Nat.reduceAdd, Nat.reduceLeDiff, Nat.reduceEqDiff, Nat.reduceSub, Nat.reduceMul, Nat.reduceDiv, SOper.again, same, sameBlk, sameCap, Nat.reduceBneDiff, s_draw2, s_pair, k_pair, asunder, SOper.into, Bool.not_false, Bool.not_true, CL, XS, Int.reduceBEq, h1, h2, w0, Ends, gives_ret]
    exact ⟨_, rfl⟩
  · refine Ev.of fun n H => ?_
    have t1 : (t == []) = false := by simpa using ht
    simp -implicitDefEqProofs only [c40, ↓v_lenS, SB, POp.val, AOp.val, WOp.val, Lite.bin, intBin, strBin, eqv, eqMany, eq1, AV.asBool, AV.asInt, AV.asNat, AV.asPtr, AV.asStr, resVals, ResV.val, oneOr, wants, skipped, fillAt, putAt, capOf, optNat, bnd, Nat.reduceBEq, reduceIte, Nat.reduceAdd, Nat.reduceLeDiff, Nat.reduceEqDiff, Nat.reduceSub, Nat.reduceMul, Nat.reduceDiv, SOper.again, same, sameBlk, sameCap, Nat.reduceBneDiff, s_draw2, s_pair, k_pair, asunder, SOper.into, Bool.not_false, Bool.not_true, CL, XS, Int.reduceBEq, h1, h2, w0, t1, Ends, gives_ret]
    exact ⟨_, rfl⟩
  · refine Ev.of fun n H => ?_
    have t1 : (t == []) = false := by simpa using ht
    simp -implicitDefEqProofs only [c40, ↓v_lenS, SB, POp.val, AOp.val, WOp.val, Lite.bin, intBin, strBin, eqv, eqMany, eq1, AV.asBool, AV.asInt, AV.asNat, AV.asPtr, AV.asStr, resVals, ResV.val, oneOr, wants, skipped, fillAt, putAt, capOf, optNat, bnd, Nat.reduceBEq, reduceIte, Nat.reduceAdd, Nat.reduceLeDiff, Nat.reduceEqDiff, Nat.reduceSub, Nat.reduceMul, Nat.reduceDiv, SOper.again, same, sameBlk, sameCap, Nat.reduceBneDiff, s_draw2, s_pair, k_pair, asunder, SOper.into, Bool.not_false, Bool.not_true, CL, XS, Int.reduceBEq, h1, h2, w0, t1, Ends, gives_ret]
    exact ⟨_, rfl⟩
  · subst ht
    refine (once21 ns hn ho).mono fun n e H => ?_
    have g1 : (ns.length : Int) > 0 := by omega
    simp -implicitDefEqProofs only [c40, ↓v_lenS, SB, POp.val, AOp.val, WOp.val, Lite.bin, intBin, strBin, eqv, eqMany, eq1, AV.asBool, AV.asInt, AV.asNat, AV.asPtr, AV.asStr, resVals, ResV.val, oneOr, wants, skipped, fillAt, putAt, capOf, optNat, bnd, Nat.reduceBEq, reduceIte, Nat.reduceAdd, Nat.reduceLeDiff, Nat.reduceEqDiff, Nat.reduceSub, Nat.reduceMul, Nat.reduceDiv, SOper.again, same, sameBlk, sameCap, Nat.reduceBneDiff, s_draw2, s_pair, k_pair, asunder, SOper.into, Bool.not_false, Bool.not_true, CL, XS, Int.reduceBEq, g1, h2, e1, e, Ends, gives_ret]
    exact ⟨_, rfl⟩
  · refine Ev.of fun n H => ?_
    subst ht
    have g1 : (l.length : Int) ≥ 2 := by omega
    simp -implicitDefEqProofs only [c40, ↓v_lenS, SB, POp.val, AOp.val, WOp.val, Lite.bin, intBin, strBin, eqv, eqMany, eq1, AV.asBool, AV.asInt, AV.asNat, AV.asPtr, AV.asStr, resVals, ResV.val, oneOr, wants, skipped, fillAt, putAt, capOf, optNat, bnd, Nat.reduceBEq, reduceIte, Nat.reduceAdd, Nat.reduceLeDiff, Nat.reduceEqDiff, Nat.reduceSub, Nat.reduceMul, Nat.reduceDiv, SOper.again, same, sameBlk, sameCap, Nat.reduceBneDiff, s_draw2, s_pair, k_pair, asunder, SOper.into, Bool.not_false, Bool.not_true, CL, XS, Int.reduceBEq, h1, g1, e0, Ends, gives_ret]
    exact ⟨_, rfl⟩
  · refine Ev.of fun n H => ?_
    subst ht
    simp -implicitDefEqProofs only [c40, ↓v_lenS, SB, POp.val, AOp.val, WOp.val, Lite.bin, intBin, strBin, eqv, eqMany, eq1, AV.asBool, AV.asInt, AV.asNat, AV.asPtr, AV.asStr, resVals, ResV.val, oneOr, wants, skipped, fillAt, putAt, capOf, optNat, bnd, Nat.reduceBEq, reduceIte, Nat.reduceAdd, Nat.reduceLeDiff, Nat.reduceEqDiff, Nat.reduceSub, Nat.reduceMul, Nat.reduceDiv, SOper.again, same, sameBlk, sameCap, Nat.reduceBneDiff, s_draw2, s_pair, k_pair, asunder, SOper.into, Bool.not_false, Bool.not_true, CL, XS, Int.reduceBEq, h1, h2, e0, e3, Ends, gives_ret]
    exact ⟨_, rfl⟩
  · subst ht
    refine (once21 ns hn ho).mono fun n e H => ?_
    have g1 : (ns.length : Int) > 0 := by omega
    have w1 : IntKind.i64.wrap ((ns.length : Int) + 1) = ((ns.length + 1 : Nat) : Int) := by rw [wrap64 (by omega) (by omega)]; rfl
    have g2 : (((ns.length + 1 : Nat) : Int) == ((ns.length + 1 : Nat) : Int)) = true := by simp
    simp -implicitDefEqProofs only [c40, ↓v_lenS, SB, POp.val, AOp.val, WOp.val, Lite.bin, intBin, strBin, eqv, eqMany, eq1, AV.asBool, AV.asInt, AV.asNat, AV.asPtr, AV.asStr, resVals, ResV.val, oneOr, wants, skipped, fillAt, putAt, capOf, optNat, bnd, Nat.reduceBEq, reduceIte, Nat.reduceAdd, Nat.reduceLeDiff, Nat.reduceEqDiff, Nat.reduceSub, Nat.reduceMul, Nat.reduceDiv, SOper.again, same, sameBlk, sameCap, Nat.reduceBneDiff, s_draw2, s_pair, k_pair, asunder, SOper.into, Bool.not_false, Bool.not_true, CL, XS, Int.reduceBEq, g1, h2, w1, g2, e, Ends, gives_ret]
    exact ⟨_, rfl⟩
  · refine (arity47 t).mono fun n e H => ?_
    have g1 : arityX t > 0 := h0
    have g2 : ((l.length : Int) == arityX t) = true := by simpa using h1
    simp -implicitDefEqProofs only [c40, ↓v_lenS, SB, POp.val, AOp.val, WOp.val, Lite.bin, intBin, strBin, eqv, eqMany, eq1, AV.asBool, AV.asInt, AV.asNat, AV.asPtr, AV.asStr, resVals, ResV.val, oneOr, wants, skipped, fillAt, putAt, capOf, optNat, bnd, Nat.reduceBEq, reduceIte, Nat.reduceAdd, Nat.reduceLeDiff, Nat.reduceEqDiff, Nat.reduceSub, Nat.reduceMul, Nat.reduceDiv, SOper.again, same, sameBlk, sameCap, Nat.reduceBneDiff, s_draw2, s_pair, k_pair, asunder, SOper.into, Bool.not_false, Bool.not_true, CL, XS, Int.reduceBEq, h2, g1, g2, e0, e, Ends, gives_ret]
    exact ⟨_, rfl⟩

theorem right19 : ∀ x : X, x.right → x.fit → Ret P3 19 [x.v] (.bool true) := X.indA fun k t ns l ih hr hf => by
  obtain ⟨r1, r2, r3⟩ := hr
  have r3 := (rights_iff l).1 r3
  obtain ⟨f1, f2, f3⟩ := hf
  have f3 := (X.fits_iff l).1 f3
  refine Ret.of rfl (code19 _ _) rfl rfl (fun H => by simp -implicitDefEqProofs only [mapHM_nil, mapHM_cons, X.shut, Option.bind_some, Option.map_some]) ?_
  refine ((Ev.all l fun x hx => ih x hx (r3 x hx) (f3 x hx)).and ((shape40 k t ns l r1 r2 f1 f2).and (Ev.ge (l.length + 1)))).mono fun n hn H => ?_
  obtain ⟨ihn, e40, hge⟩ := hn
  rw [X.v_mk] at e40
  simp -implicitDefEqProofs only [c19, ↓v_lenS, SB, POp.val, AOp.val, WOp.val, Lite.bin, intBin, strBin, eqv, eqMany, eq1, AV.asBool, AV.asInt, AV.asNat, AV.asPtr, AV.asStr, resVals, ResV.val, oneOr, wants, skipped, fillAt, putAt, capOf, optNat, bnd, Nat.reduceBEq, reduceIte, Nat.reduceAdd, Nat.reduceLeDiff, Nat.reduceEqDiff, Nat.reduceSub, Nat.reduceMul, Nat.reduceDiv, SOper.again, same, sameBlk, sameCap, Nat.reduceBneDiff, s_draw2, s_pair, k_pair, asunder, SOper.into, Bool.not_false, Bool.not_true, CL, XS, e40]
  refine loop_rounds l.length (fun i fr H => H.t.get 0 = some (.row [.int .i64 k, .str t, vStrs ns, vXs l] 0 false (some 28)) ∧ fr 1 = .ptr (.new 0) 0 ∧ fr 3 = .int .i64 i) ?_ ?_ n 0 _ _ (by omega) (by omega) ?_
  · rintro i fr H K' hi ⟨g0, h1, h3⟩ hKe hKr hK
    obtain ⟨x, hx⟩ : ∃ x, l[i]? = some x := ⟨l[i], List.getElem?_eq_getElem hi⟩
    have e1 := ihn x (List.mem_of_getElem? hx)
    have hlt : (i : Int) < (l.length : Int) := by omega
    have hw := wrap_succ hi (by omega)
    obtain ⟨kx, tx, nx, lx⟩ := x
    rw [X.v_mk] at e1
    simp -implicitDefEqProofs only [c19_l0, ↓v_lenS, SB, POp.val, AOp.val, WOp.val, Lite.bin, intBin, strBin, eqv, eqMany, eq1, AV.asBool, AV.asInt, AV.asNat, AV.asPtr, AV.asStr, resVals, ResV.val, oneOr, wants, skipped, fillAt, putAt, capOf, optNat, bnd, Nat.reduceBEq, reduceIte, Nat.reduceAdd, Nat.reduceLeDiff, Nat.reduceEqDiff, Nat.reduceSub, Nat.reduceMul, Nat.reduceDiv, SOper.again, same, sameBlk, sameCap, Nat.reduceBneDiff, s_draw2, s_pair, k_pair, asunder, SOper.into, Bool.not_false, Bool.not_true, CL, XS, g0, h1, h3, hlt, iaddr_vXs hx, e1, hw]
    refine hK _ _ ?_
    simp -implicitDefEqProofs only [↓v_lenS, SB, POp.val, AOp.val, WOp.val, Lite.bin, intBin, strBin, eqv, eqMany, eq1, AV.asBool, AV.asInt, AV.asNat, AV.asPtr, AV.asStr, resVals, ResV.val, oneOr, wants, skipped, fillAt, putAt, capOf, optNat, bnd, Nat.reduceBEq, reduceIte, Nat.reduceAdd, Nat.reduceLeDiff, Nat.reduceEqDiff, Nat.reduceSub, Nat.reduceMul, Nat.reduceDiv, SOper.again, same, sameBlk, sameCap, Nat.reduceBneDiff, s_draw2, s_pair, k_pair, asunder, SOper.into, Bool.not_false, Bool.not_true, g0, h1]
  · rintro fr H K' ⟨g0, h1, h3⟩ hKe hKr
    simp -implicitDefEqProofs only [c19_l0, ↓v_lenS, SB, POp.val, AOp.val, WOp.val, Lite.bin, intBin, strBin, eqv, eqMany, eq1, AV.asBool, AV.asInt, AV.asNat, AV.asPtr, AV.asStr, resVals, ResV.val, oneOr, wants, skipped, fillAt, putAt, capOf, optNat, bnd, Nat.reduceBEq, reduceIte, Nat.reduceAdd, Nat.reduceLeDiff, Nat.reduceEqDiff, Nat.reduceSub, Nat.reduceMul, Nat.reduceDiv, SOper.again, same, sameBlk, sameCap, Nat.reduceBneDiff, s_draw2, s_pair, k_pair, asunder, SOper.into, Bool.not_false, Bool.not_true, XS, g0, h1, h3, Int.lt_irrefl, hKe, Ends, gives_ret]
    exact ⟨_, rfl⟩
  · simp -implicitDefEqProofs only [↓v_lenS, SB, POp.val, AOp.val, WOp.val, Lite.bin, intBin, strBin, eqv, eqMany, eq1, AV.asBool, AV.asInt, AV.asNat, AV.asPtr, AV.asStr, resVals, ResV.val, oneOr, wants, skipped, fillAt, putAt, capOf, optNat, bnd, Nat.reduceBEq, reduceIte, Nat.reduceAdd, Nat.reduceLeDiff, Nat.reduceEqDiff, Nat.reduceSub, Nat.reduceMul, Nat.reduceDiv, SOper.again, same, sameBlk, sameCap, Nat.reduceBneDiff, s_draw2, s_pair, k_pair, asunder, SOper.into, Bool.not_false, Bool.not_true]
    rfl

end Go.Lite

/-
  Free names: a set with one more; a set without some; a term's.
-/
namespace Go.Lite
open Go Go.Proofs
set_option maxRecDepth 100000
set_option linter.unusedSimpArgs false
set_option linter.unusedVariables false

theorem withS_len (l : List Str) (s : Str) : (withS l s).length ≤ l.length + 1 := by
  have key : ∀ p : Str → Bool, (l.takeWhile p ++ s :: l.dropWhile p).length ≤ l.length + 1 := fun p => by
    have := congrArg List.length (List.takeWhile_append_dropWhile (p := p) (l := l))
    rw [List.length_append] at this
    rw [List.length_append, List.length_cons]
    omega
  unfold withS
  split
  · omega
  · exact key _

/-- a list's beginning, its end: what is taken of them -/
theorem taken_take {f : Bool} {l : List Str} {j : Nat} (hj : j ≤ l.length) : ∃ y, sliceOf 1 (vList f 1 str1 l) none (some j) none = some y ∧ ∀ H, taken 1 H y = some (j, (l.take j).flatMap str1) := by
  cases l with
  | nil =>
    obtain rfl : j = 0 := by simpa using hj
    refine ⟨.lst 0 0 f [], ?_, fun H => ?_⟩
    · simp only [vList_nil, sliceOf, Option.getD_some, Option.getD_none]
      rw [if_pos ⟨by omega, by omega, by omega, .inr trivial⟩]
      cases f <;> simp
    · rw [k_takenL, if_pos (.inr rfl)]; rfl
  | cons x l =>
    have h1 : (str1 x ++ l.flatMap str1) = (x :: l).flatMap str1 := by simp
    refine ⟨.lst 1 j false (((x :: l).take j).flatMap str1), ?_, fun H => by rw [k_takenL, if_pos (.inl rfl)]⟩
    simp only [vList_cons, sliceOf, Option.getD_some, Option.getD_none]
    simp only [List.length_cons] at hj
    rw [if_pos ⟨by omega, by omega, by omega, .inl trivial⟩, h1, Nat.zero_mul, List.drop_zero, Nat.sub_zero, flat_take str1_len]
    rfl

theorem taken_drop {f : Bool} {l : List Str} {j : Nat} (hj : j ≤ l.length) : ∃ y, sliceOf 1 (vList f 1 str1 l) (some j) none none = some y ∧ ∀ H, taken 1 H y = some (l.length - j, (l.drop j).flatMap str1) := by
  cases l with
  | nil =>
    obtain rfl : j = 0 := by simpa using hj
    refine ⟨.lst 0 0 f [], ?_, fun H => ?_⟩
    · simp only [vList_nil, sliceOf, Option.getD_some, Option.getD_none]
      rw [if_pos ⟨by omega, by omega, by omega, .inr trivial⟩]
      cases f <;> simp
    · rw [k_takenL, if_pos (.inr rfl)]; rfl
  | cons x l =>
    have h1 : (str1 x ++ l.flatMap str1) = (x :: l).flatMap str1 := by simp
    refine ⟨.lst 1 (l.length + 1 - j) false (((x :: l).drop j).flatMap str1), ?_, fun H => by rw [k_takenL, if_pos (.inl rfl)]; rfl⟩
    simp only [vList_cons, sliceOf, Option.getD_some, Option.getD_none]
    simp only [List.length_cons] at hj
    rw [if_pos ⟨by omega, by omega, by omega, .inl trivial⟩, h1, flat_drop str1_len, List.take_of_length_le]
    · rfl
    · rw [flat_len str1_len, List.length_drop, List.length_cons]
      exact Nat.le_refl _

theorem vList_flag {f g : Bool} {l : List Str} (h : l ≠ []) : vList f 1 str1 l = vList g 1 str1 l := by
  cases l with
  | nil => exact absurd rfl h
  | cons x l => rfl

theorem takeWhile_at {p : Str → Bool} : ∀ (l : List Str) (i : Nat) (x : Str), i < (l.takeWhile p).length → l[i]? = some x → p x = true
  | [], i, x, h, _ => by simp at h
  | y :: l, i, x, h, hx => by
    rw [List.takeWhile_cons] at h
    cases hp : p y with
    | false => rw [hp] at h; simp at h
    | true =>
      rw [hp] at h
      cases i with
      | zero => simp only [List.getElem?_cons_zero, Option.some.injEq] at hx; rw [← hx]; exact hp
      | succ i => exact takeWhile_at l i x (by simpa using h) (by simpa using hx)

theorem takeWhile_end {p : Str → Bool} : ∀ (l : List Str) (x : Str), l[(l.takeWhile p).length]? = some x → p x = false
  | [], x, h => by simp at h
  | y :: l, x, h => by
    rw [List.takeWhile_cons] at h
    cases hp : p y with
    | false => rw [hp] at h; simp at h; rw [← h]; exact hp
    | true =>
      rw [hp] at h
      exact takeWhile_end l x (by simpa using h)

theorem takeWhile_take {p : Str → Bool} (l : List Str) : l.take (l.takeWhile p).length = l.takeWhile p ∧ l.drop (l.takeWhile p).length = l.dropWhile p := by
  have h := List.takeWhile_append_dropWhile (p := p) (l := l)
  constructor
  · conv => lhs; rw [← h]
    rw [List.takeWhile_append_dropWhile, ← h, List.takeWhile_append_dropWhile]
    conv => lhs; arg 2; rw [← h]
    rw [List.take_left']
    rfl
  · conv => lhs; arg 2; rw [← h]
    rw [List.drop_left']
    rfl

set_option maxHeartbeats 1000000 in
theorem with41 (l : List Str) (s : Str) (hl : l.length ≤ 1048576) : Ret P3 41 [vStrs l, .str s] (vStrs (withS l s)) := by
  refine Ret.of rfl (code41 _ _) rfl rfl (fun H => by simp -implicitDefEqProofs only [↓v_lenS, SB, POp.val, AOp.val, WOp.val, Lite.bin, intBin, strBin, eqv, eqMany, eq1, AV.asBool, AV.asInt, AV.asNat, AV.asPtr, AV.asStr, resVals, ResV.val, oneOr, wants, skipped, fillAt, putAt, capOf, optNat, bnd, Nat.reduceBEq, reduceIte, Nat.reduceAdd, Nat.reduceLeDiff, Nat.reduceEqDiff, Nat.reduceSub, Nat.reduceMul, Nat.reduceDiv, SOper.again, same, sameBlk, sameCap, Nat.reduceBneDiff, s_draw2, s_pair, k_pair, asunder, SOper.into, Bool.not_false, Bool.not_true, XS]) ?_
  refine ((in43 true l s (by omega)).and (Ev.ge (l.length + 1))).mono fun n hn H => ?_
  obtain ⟨e43, hge⟩ := hn
  have e43 : ∀ H, callN P3 n 43 [vStrs l, .str s] H = some (.ret (.bool (l.any (· == s))), H) := e43
  unfold withS
  cases hin : l.any (· == s) with
  | true =>
    rw [hin] at e43
    rw [if_pos rfl]
    simp -implicitDefEqProofs only [c41, ↓v_lenS, SB, POp.val, AOp.val, WOp.val, Lite.bin, intBin, strBin, eqv, eqMany, eq1, AV.asBool, AV.asInt, AV.asNat, AV.asPtr, AV.asStr, resVals, ResV.val, oneOr, wants, skipped, fillAt, putAt, capOf, optNat, bnd, Nat.reduceBEq, reduceIte, Nat.reduceAdd, Nat.reduceLeDiff, Nat.reduceEqDiff, Nat.reduceSub, Nat.reduceMul, Nat.reduceDiv, SOper.again, same, sameBlk, sameCap, Nat.reduceBneDiff, s_draw2, s_pair, k_pair, asunder, SOper.into, Bool.not_false, Bool.not_true, CL, XS, e43, Ends, gives_ret]
    exact ⟨_, rfl⟩
  | false =>
    rw [hin] at e43
    rw [if_neg (by decide)]
    obtain ⟨ht, hd⟩ := takeWhile_take (p := fun x => less x s) l
    have hN : (l.takeWhile (fun x => less x s)).length ≤ l.length := by
      have := List.takeWhile_append_dropWhile (p := fun x => less x s) (l := l)
      have := congrArg List.length this
      rw [List.length_append] at this; omega
    have hat := takeWhile_at (p := fun x => less x s) l
    have hend := takeWhile_end (p := fun x => less x s) l
    rw [← ht, ← hd]
    generalize (l.takeWhile (fun x => less x s)).length = N at *
    simp -implicitDefEqProofs only [c41, ↓v_lenS, SB, POp.val, AOp.val, WOp.val, Lite.bin, intBin, strBin, eqv, eqMany, eq1, AV.asBool, AV.asInt, AV.asNat, AV.asPtr, AV.asStr, resVals, ResV.val, oneOr, wants, skipped, fillAt, putAt, capOf, optNat, bnd, Nat.reduceBEq, reduceIte, Nat.reduceAdd, Nat.reduceLeDiff, Nat.reduceEqDiff, Nat.reduceSub, Nat.reduceMul, Nat.reduceDiv, SOper.again, same, sameBlk, sameCap, Nat.reduceBneDiff, s_draw2, s_pair, k_pair, asunder, SOper.into, Bool.not_false, Bool.not_true, CL, XS, e43]
    refine loop_rounds N (fun i fr H => fr 0 = vStrs l ∧ fr 1 = .str s ∧ fr 5 = .int .i64 i ∧ HLow H) ?_ ?_ n 0 _ _ (by omega) (by omega) ?_
    · rintro i fr H K' hi ⟨h0, h1, h5, low⟩ hKe hKr hK
      obtain ⟨x, hx⟩ : ∃ x, l[i]? = some x := ⟨l[i], List.getElem?_eq_getElem (by omega)⟩
      have hlt : (i : Int) < (l.length : Int) := by omega
      have hw := wrap_succ hi (by omega)
      have hls := hat i x hi hx
      simp -implicitDefEqProofs only [c41_l0, ↓v_lenS, SB, POp.val, AOp.val, WOp.val, Lite.bin, intBin, strBin, eqv, eqMany, eq1, AV.asBool, AV.asInt, AV.asNat, AV.asPtr, AV.asStr, resVals, ResV.val, oneOr, wants, skipped, fillAt, putAt, capOf, optNat, bnd, Nat.reduceBEq, reduceIte, Nat.reduceAdd, Nat.reduceLeDiff, Nat.reduceEqDiff, Nat.reduceSub, Nat.reduceMul, Nat.reduceDiv, SOper.again, same, sameBlk, sameCap, Nat.reduceBneDiff, s_draw2, s_pair, k_pair, asunder, SOper.into, Bool.not_false, Bool.not_true, CL, XS, h0, h1, h5, hlt, iaddr_vStrs hx, hls, hw]
      refine hK _ _ ?_
      simp -implicitDefEqProofs only [↓v_lenS, SB, POp.val, AOp.val, WOp.val, Lite.bin, intBin, strBin, eqv, eqMany, eq1, AV.asBool, AV.asInt, AV.asNat, AV.asPtr, AV.asStr, resVals, ResV.val, oneOr, wants, skipped, fillAt, putAt, capOf, optNat, bnd, Nat.reduceBEq, reduceIte, Nat.reduceAdd, Nat.reduceLeDiff, Nat.reduceEqDiff, Nat.reduceSub, Nat.reduceMul, Nat.reduceDiv, SOper.again, same, sameBlk, sameCap, Nat.reduceBneDiff, s_draw2, s_pair, k_pair, asunder, SOper.into, Bool.not_false, Bool.not_true, h0, h1]
      exact low
    · rintro fr H K' ⟨h0, h1, h5, low⟩ hKe hKr
      have low1 := low.push (ob := .row [] 0 true none)
      have low2 := low1.push (ob := .row [.str s] 0 true none)
      obtain ⟨y1, hy1, ty1⟩ := taken_take (f := true) (l := l) hN
      obtain ⟨y2, hy2, ty2⟩ := taken_drop (f := true) (l := l) hN
      have hy1 : sliceOf 1 (vStrs l) none (some N) none = some y1 := hy1
      have hy2 : sliceOf 1 (vStrs l) (some N) none none = some y2 := hy2
      have hlN : (l.take N).length = N := by rw [List.length_take]; omega
      obtain ⟨v1, G1, ha1, n1, lowG1, hn1, hg1, kp1⟩ := names_app low2 (l.take N) (by omega)
      rw [hlN] at ha1
      obtain ⟨G2, ha2, n2, kp2, lowG2, hn2⟩ := n1.one_more hn1 lowG1 (by omega) s
      rw [hlN] at ha2 n2
      obtain ⟨v3, G3, ha3, n3, kp3, lowG3⟩ := n2.more (e := 9) (bs := 16) (m := l.length - N) (ys := (l.drop N).flatMap str1) (by omega) lowG2 (by decide) (by rw [flat_len str1_len, List.length_drop]) (strs_flat _) (by omega)
      obtain ⟨G4, hsh, kp4⟩ := n3.shutV (by decide) (by rw [← List.flatMap_append]; exact Still.flat str1_still _)
      have hres : AV.L true 1 ((l.take N ++ [s]).flatMap str1 ++ (l.drop N).flatMap str1) (N + 1 + (l.length - N)) = vStrs (l.take N ++ s :: l.drop N) := by
        rw [← L_vStrs, ← List.flatMap_append, List.append_assoc, List.singleton_append, List.length_append, List.length_cons, List.length_drop, hlN]
        congr 1
        omega
      rw [hres] at hsh
      by_cases hlt : N < l.length
      · obtain ⟨x, hx⟩ : ∃ x, l[N]? = some x := ⟨l[N], List.getElem?_eq_getElem hlt⟩
        have hlt' : (N : Int) < (l.length : Int) := by omega
        have hls := hend x hx
        simp -implicitDefEqProofs only [c41_l0, ↓v_lenS, SB, POp.val, AOp.val, WOp.val, Lite.bin, intBin, strBin, eqv, eqMany, eq1, AV.asBool, AV.asInt, AV.asNat, AV.asPtr, AV.asStr, resVals, ResV.val, oneOr, wants, skipped, fillAt, putAt, capOf, optNat, bnd, Nat.reduceBEq, reduceIte, Nat.reduceAdd, Nat.reduceLeDiff, Nat.reduceEqDiff, Nat.reduceSub, Nat.reduceMul, Nat.reduceDiv, SOper.again, same, sameBlk, sameCap, Nat.reduceBneDiff, s_draw2, s_pair, k_pair, asunder, SOper.into, Bool.not_false, Bool.not_true, CL, XS, h0, h1, h5, hlt', iaddr_vStrs hx, hls, hKe, hy1, hy2, ty1, ty2, ha1, ha2, ha3, Ends, gives_ret]
        exact ⟨_, hsh⟩
      · have hlt' : ¬ (N : Int) < (l.length : Int) := by omega
        simp -implicitDefEqProofs only [c41_l0, ↓v_lenS, SB, POp.val, AOp.val, WOp.val, Lite.bin, intBin, strBin, eqv, eqMany, eq1, AV.asBool, AV.asInt, AV.asNat, AV.asPtr, AV.asStr, resVals, ResV.val, oneOr, wants, skipped, fillAt, putAt, capOf, optNat, bnd, Nat.reduceBEq, reduceIte, Nat.reduceAdd, Nat.reduceLeDiff, Nat.reduceEqDiff, Nat.reduceSub, Nat.reduceMul, Nat.reduceDiv, SOper.again, same, sameBlk, sameCap, Nat.reduceBneDiff, s_draw2, s_pair, k_pair, asunder, SOper.into, Bool.not_false, Bool.not_true, CL, XS, h0, h1, h5, hlt', hKe, hy1, hy2, ty1, ty2, ha1, ha2, ha3, Ends, gives_ret]
        exact ⟨_, hsh⟩
    · simp -implicitDefEqProofs only [↓v_lenS, SB, POp.val, AOp.val, WOp.val, Lite.bin, intBin, strBin, eqv, eqMany, eq1, AV.asBool, AV.asInt, AV.asNat, AV.asPtr, AV.asStr, resVals, ResV.val, oneOr, wants, skipped, fillAt, putAt, capOf, optNat, bnd, Nat.reduceBEq, reduceIte, Nat.reduceAdd, Nat.reduceLeDiff, Nat.reduceEqDiff, Nat.reduceSub, Nat.reduceMul, Nat.reduceDiv, SOper.again, same, sameBlk, sameCap, Nat.reduceBneDiff, s_draw2, s_pair, k_pair, asunder, SOper.into, Bool.not_false, Bool.not_true]
      exact ⟨rfl, HLow.bare⟩

theorem withoutS_snoc (l ns : List Str) (i : Nat) (x : Str) (h : l[i]? = some x) : withoutS (l.take (i + 1)) ns = if ns.any (· == x) = true then withoutS (l.take i) ns else withoutS (l.take i) ns ++ [x] := by
  rw [List.take_add_one, h, Option.toList_some]
  unfold withoutS
  rw [List.filter_append]
  cases hx : ns.any (· == x) with
  | true => simp [hx]
  | false => simp [hx]

theorem withoutS_len (l ns : List Str) : (withoutS l ns).length ≤ l.length := List.length_filter_le _ _

set_option maxHeartbeats 1000000 in
theorem without42 (l ns : List Str) (hl : l.length ≤ 1048576) (hn : ns.length ≤ 1048576) : Ret P3 42 [vStrs l, vStrs ns] (vStrs (withoutS l ns)) := by
  refine Ret.of rfl (code42 _ _) rfl rfl (fun H => by simp -implicitDefEqProofs only [↓v_lenS, SB, POp.val, AOp.val, WOp.val, Lite.bin, intBin, strBin, eqv, eqMany, eq1, AV.asBool, AV.asInt, AV.asNat, AV.asPtr, AV.asStr, resVals, ResV.val, oneOr, wants, skipped, fillAt, putAt, capOf, optNat, bnd, Nat.reduceBEq, reduceIte, Nat.reduceAdd, Nat.reduceLeDiff, Nat.reduceEqDiff, Nat.reduceSub, Nat.reduceMul, Nat.reduceDiv, SOper.again, same, sameBlk, sameCap, Nat.reduceBneDiff, s_draw2, s_pair, k_pair, asunder, SOper.into, Bool.not_false, Bool.not_true, XS]) ?_
  refine ((Ev.all l fun x _ => in43 true ns x (by omega)).and (Ev.ge (l.length + 1))).mono fun n hn' H => ?_
  obtain ⟨e43, hge⟩ := hn'
  simp -implicitDefEqProofs only [c42, ↓v_lenS, SB, POp.val, AOp.val, WOp.val, Lite.bin, intBin, strBin, eqv, eqMany, eq1, AV.asBool, AV.asInt, AV.asNat, AV.asPtr, AV.asStr, resVals, ResV.val, oneOr, wants, skipped, fillAt, putAt, capOf, optNat, bnd, Nat.reduceBEq, reduceIte, Nat.reduceAdd, Nat.reduceLeDiff, Nat.reduceEqDiff, Nat.reduceSub, Nat.reduceMul, Nat.reduceDiv, SOper.again, same, sameBlk, sameCap, Nat.reduceBneDiff, s_draw2, s_pair, k_pair, asunder, SOper.into, Bool.not_false, Bool.not_true, CL, XS]
  refine loop_rounds l.length (fun i fr H => ∃ v, Acc 0 H 9 1 (withoutS (l.take i) ns).length ((withoutS (l.take i) ns).flatMap str1) v ∧ HLow H ∧ fr 0 = vStrs l ∧ fr 1 = vStrs ns ∧ fr 5 = v ∧ fr 6 = .int .i64 i) ?_ ?_ n 0 _ _ (by omega) (by omega) ?_
  · rintro i fr H K' hi ⟨v, acc, low, h0, h1, h5, h6⟩ hKe hKr hK
    obtain ⟨x, hx⟩ : ∃ x, l[i]? = some x := ⟨l[i], List.getElem?_eq_getElem hi⟩
    have e1 : ∀ H, callN P3 n 43 [vStrs ns, .str x] H = some (.ret (.bool (ns.any (· == x))), H) := e43 x (List.mem_of_getElem? hx)
    have hlt : (i : Int) < (l.length : Int) := by omega
    have hw := wrap_succ hi (by omega)
    have hsn := withoutS_snoc l ns i x hx
    have hwl := withoutS_len (l.take i) ns
    rw [List.length_take] at hwl
    cases hin : ns.any (· == x) with
    | true =>
      rw [hin] at e1 hsn
      rw [if_pos rfl] at hsn
      simp -implicitDefEqProofs only [c42_l0, ↓v_lenS, SB, POp.val, AOp.val, WOp.val, Lite.bin, intBin, strBin, eqv, eqMany, eq1, AV.asBool, AV.asInt, AV.asNat, AV.asPtr, AV.asStr, resVals, ResV.val, oneOr, wants, skipped, fillAt, putAt, capOf, optNat, bnd, Nat.reduceBEq, reduceIte, Nat.reduceAdd, Nat.reduceLeDiff, Nat.reduceEqDiff, Nat.reduceSub, Nat.reduceMul, Nat.reduceDiv, SOper.again, same, sameBlk, sameCap, Nat.reduceBneDiff, s_draw2, s_pair, k_pair, asunder, SOper.into, Bool.not_false, Bool.not_true, CL, XS, h0, h1, h5, h6, hlt, iaddr_vStrs hx, e1, hw]
      refine hK _ _ ⟨v, by rw [hsn]; exact acc, low, ?_⟩
      simp -implicitDefEqProofs only [↓v_lenS, SB, POp.val, AOp.val, WOp.val, Lite.bin, intBin, strBin, eqv, eqMany, eq1, AV.asBool, AV.asInt, AV.asNat, AV.asPtr, AV.asStr, resVals, ResV.val, oneOr, wants, skipped, fillAt, putAt, capOf, optNat, bnd, Nat.reduceBEq, reduceIte, Nat.reduceAdd, Nat.reduceLeDiff, Nat.reduceEqDiff, Nat.reduceSub, Nat.reduceMul, Nat.reduceDiv, SOper.again, same, sameBlk, sameCap, Nat.reduceBneDiff, s_draw2, s_pair, k_pair, asunder, SOper.into, Bool.not_false, Bool.not_true, h0, h1, h5]
    | false =>
      rw [hin] at e1 hsn
      rw [if_neg (by decide)] at hsn
      have low1 := low.push (ob := .row [.str x] 0 true none)
      obtain ⟨H7, happ, acc7, kp7, low7, hn7⟩ := (acc.push low (ob := .row [.str x] 0 true none)).one_more (e := 9) (bs := 16) (ys := [.str x]) (Nat.zero_le _) low1 (by decide) rfl rfl (by omega)
      have fv := acc.flat
      simp -implicitDefEqProofs only [c42_l0, ↓v_lenS, SB, POp.val, AOp.val, WOp.val, Lite.bin, intBin, strBin, eqv, eqMany, eq1, AV.asBool, AV.asInt, AV.asNat, AV.asPtr, AV.asStr, resVals, ResV.val, oneOr, wants, skipped, fillAt, putAt, capOf, optNat, bnd, Nat.reduceBEq, reduceIte, Nat.reduceAdd, Nat.reduceLeDiff, Nat.reduceEqDiff, Nat.reduceSub, Nat.reduceMul, Nat.reduceDiv, SOper.again, same, sameBlk, sameCap, Nat.reduceBneDiff, s_draw2, s_pair, k_pair, asunder, SOper.into, Bool.not_false, Bool.not_true, CL, XS, h0, h1, h5, h6, hlt, iaddr_vStrs hx, e1, k_taken, happ, hw]
      refine hK _ _ ⟨_, by rw [hsn, flat_snoc, List.length_append]; exact acc7, low7, ?_⟩
      simp -implicitDefEqProofs only [↓v_lenS, SB, POp.val, AOp.val, WOp.val, Lite.bin, intBin, strBin, eqv, eqMany, eq1, AV.asBool, AV.asInt, AV.asNat, AV.asPtr, AV.asStr, resVals, ResV.val, oneOr, wants, skipped, fillAt, putAt, capOf, optNat, bnd, Nat.reduceBEq, reduceIte, Nat.reduceAdd, Nat.reduceLeDiff, Nat.reduceEqDiff, Nat.reduceSub, Nat.reduceMul, Nat.reduceDiv, SOper.again, same, sameBlk, sameCap, Nat.reduceBneDiff, s_draw2, s_pair, k_pair, asunder, SOper.into, Bool.not_false, Bool.not_true, h0, h1]
  · rintro fr H K' ⟨v, acc, low, h0, h1, h5, h6⟩ hKe hKr
    rw [List.take_length] at acc
    obtain ⟨H', hsh, _⟩ := acc.shutV (by decide) (Still.flat str1_still _)
    rw [L_vStrs] at hsh
    simp -implicitDefEqProofs only [c42_l0, ↓v_lenS, SB, POp.val, AOp.val, WOp.val, Lite.bin, intBin, strBin, eqv, eqMany, eq1, AV.asBool, AV.asInt, AV.asNat, AV.asPtr, AV.asStr, resVals, ResV.val, oneOr, wants, skipped, fillAt, putAt, capOf, optNat, bnd, Nat.reduceBEq, reduceIte, Nat.reduceAdd, Nat.reduceLeDiff, Nat.reduceEqDiff, Nat.reduceSub, Nat.reduceMul, Nat.reduceDiv, SOper.again, same, sameBlk, sameCap, Nat.reduceBneDiff, s_draw2, s_pair, k_pair, asunder, SOper.into, Bool.not_false, Bool.not_true, CL, XS, h0, h1, h5, h6, Int.lt_irrefl, hKe, Ends, gives_ret]
    exact ⟨_, hsh⟩
  · refine ⟨.nils, Acc.nil, HLow.bare, ?_⟩
    simp -implicitDefEqProofs only [↓v_lenS, SB, POp.val, AOp.val, WOp.val, Lite.bin, intBin, strBin, eqv, eqMany, eq1, AV.asBool, AV.asInt, AV.asNat, AV.asPtr, AV.asStr, resVals, ResV.val, oneOr, wants, skipped, fillAt, putAt, capOf, optNat, bnd, Nat.reduceBEq, reduceIte, Nat.reduceAdd, Nat.reduceLeDiff, Nat.reduceEqDiff, Nat.reduceSub, Nat.reduceMul, Nat.reduceDiv, SOper.again, same, sameBlk, sameCap, Nat.reduceBneDiff, s_draw2, s_pair, k_pair, asunder, SOper.into, Bool.not_false, Bool.not_true]
    rfl

/-! ### A term's free names -/

theorem foldl_len : ∀ (l out : List Str), (l.foldl withS out).length ≤ out.length + l.length
  | [], out => by simp
  | s :: l, out => by
    rw [List.foldl_cons]
    have h1 := foldl_len l (withS out s)
    have h2 := withS_len out s
    rw [List.length_cons]; omega

theorem free_len : ∀ x : X, x.free.length ≤ x.size := X.indA fun k t ns l ih => by
  have key : ∀ (l : List X), (∀ x ∈ l, x.free.length ≤ x.size) → ∀ out, (X.frees l out).length ≤ out.length + X.sizes l := by
    intro l
    induction l with
    | nil => intro _ out; simp [X.frees]
    | cons x l ihl =>
      intro h out
      have h1 := h x (by simp)
      have h2 := ihl (fun y hy => h y (by simp [hy])) (x.free.foldl withS out)
      have h3 := foldl_len x.free out
      rw [X.frees, X.sizes]; omega
  rw [X.free, X.size]
  split
  · simp
  · have h1 := withoutS_len (X.frees l []) ns
    have h2 := key l ih []
    simp only [List.length_nil] at h2
    omega

theorem frees_take {l : List X} {i : Nat} {x : X} (h : l[i]? = some x) : ∀ out, X.frees (l.take (i + 1)) out = x.free.foldl withS (X.frees (l.take i) out) := by
  have key : ∀ (a b : List X) (out : List Str), X.frees (a ++ b) out = X.frees b (X.frees a out) := by
    intro a
    induction a with
    | nil => intro b out; simp [X.frees]
    | cons y a ih => intro b out; rw [List.cons_append, X.frees, X.frees, ih]
  intro out
  rw [List.take_add_one, h, Option.toList_some, key]
  simp [X.frees]

theorem frees_len (l : List X) (i : Nat) : (X.frees (l.take i) []).length ≤ X.sizes l := by
  have key : ∀ (l : List X) (out : List Str), (X.frees l out).length ≤ out.length + X.sizes l := by
    intro l
    induction l with
    | nil => intro out; simp [X.frees]
    | cons x l ih =>
      intro out
      have h1 := free_len x
      have h2 := ih (x.free.foldl withS out)
      have h3 := foldl_len x.free out
      rw [X.frees, X.sizes]; omega
  have h1 := key (l.take i) []
  have h2 := X.sizes_take_le l i
  simp only [List.length_nil] at h1
  omega

set_option maxHeartbeats 2000000 in
theorem free20 : ∀ x : X, x.size ≤ 500000 → x.fit → Ret P3 20 [x.v] (vStrs x.free) := X.indA fun k t ns l ih hsz hf => by
  rw [X.size] at hsz
  obtain ⟨f1, f2, f3⟩ := hf
  have f3 := (X.fits_iff l).1 f3
  have hll := X.len_le_sizes l
  refine Ret.of rfl (code20 _ _) rfl rfl (fun H => by simp -implicitDefEqProofs only [mapHM_nil, mapHM_cons, X.shut, Option.bind_some, Option.map_some]) ?_
  rw [X.free]
  by_cases h5 : k = 5
  · rw [if_pos h5]
    subst h5
    refine Ev.of fun n H => ?_
    have hv1 : vStrs [t] = .lst 1 1 false [.str t] := rfl
    simp -implicitDefEqProofs only [c20, ↓v_lenS, SB, POp.val, AOp.val, WOp.val, Lite.bin, intBin, strBin, eqv, eqMany, eq1, AV.asBool, AV.asInt, AV.asNat, AV.asPtr, AV.asStr, resVals, ResV.val, oneOr, wants, skipped, fillAt, putAt, capOf, optNat, bnd, Nat.reduceBEq, reduceIte, Nat.reduceAdd, Nat.reduceLeDiff, Nat.reduceEqDiff, Nat.reduceSub, Nat.reduceMul, Nat.reduceDiv, SOper.again, same, sameBlk, sameCap, Nat.reduceBneDiff, s_draw2, s_pair, k_pair, asunder, SOper.into, Bool.not_false, Bool.not_true, CL, XS, Int.reduceBEq, hv1, Ends, gives_ret]
    exact ⟨_, rfl⟩
  · rw [if_neg h5]
    have hk5 : (k == 5) = false := by simpa using h5
    have hfl := frees_len l
    have hsm : ∀ (i : Nat) (x : X), l[i]? = some x → x.free.length ≤ X.sizes l := fun i x hx => by
      have h1 := free_len x
      have h2 := X.size_mem (List.mem_of_getElem? hx)
      omega
    have hwith : Ev fun n => ∀ i ∈ List.range l.length, ∀ x ∈ l, ∀ j ∈ List.range x.free.length, ∀ s ∈ x.free, ∀ H, callN P3 n 41 [vStrs ((x.free.take j).foldl withS (X.frees (l.take i) [])), .str s] H = some (.ret (vStrs (withS ((x.free.take j).foldl withS (X.frees (l.take i) [])) s)), H) :=
      Ev.all _ fun i _ => Ev.all l fun x hx => Ev.all _ fun j hj => Ev.all _ fun s _ => with41 _ s (by
        have h1 := foldl_len (x.free.take j) (X.frees (l.take i) [])
        have h2 := hfl i
        have h3 := free_len x
        have h4 := X.size_mem hx
        rw [List.length_take] at h1
        omega)
    have hout := without42 (X.frees l []) ns (by have := hfl l.length; rw [List.take_length] at this; omega) f1
    refine ((Ev.all l fun x hx => ih x hx (by have := X.size_mem hx; omega) (f3 x hx)).and (hwith.and (hout.and (Ev.ge 500002)))).mono fun n hn H => ?_
    obtain ⟨ihn, wn, on, hge⟩ := hn
    simp -implicitDefEqProofs only [c20, ↓v_lenS, SB, POp.val, AOp.val, WOp.val, Lite.bin, intBin, strBin, eqv, eqMany, eq1, AV.asBool, AV.asInt, AV.asNat, AV.asPtr, AV.asStr, resVals, ResV.val, oneOr, wants, skipped, fillAt, putAt, capOf, optNat, bnd, Nat.reduceBEq, reduceIte, Nat.reduceAdd, Nat.reduceLeDiff, Nat.reduceEqDiff, Nat.reduceSub, Nat.reduceMul, Nat.reduceDiv, SOper.again, same, sameBlk, sameCap, Nat.reduceBneDiff, s_draw2, s_pair, k_pair, asunder, SOper.into, Bool.not_false, Bool.not_true, CL, XS, hk5]
    refine loop_rounds l.length (fun i fr H => ∃ o, (∀ H, shutV o H = some (vStrs (X.frees (l.take i) []), H)) ∧ fr 3 = o ∧ H.t.get 0 = some (.row [.int .i64 k, .str t, vStrs ns, vXs l] 0 false (some 28)) ∧ fr 1 = .ptr (.new 0) 0 ∧ fr 4 = .int .i64 i) ?_ ?_ n 0 _ _ (by omega) (by omega) ?_
    · rintro i fr H K' hi ⟨o, ho, h3, g0, h1, h4⟩ hKe hKr hK
      obtain ⟨x, hx⟩ : ∃ x, l[i]? = some x := ⟨l[i], List.getElem?_eq_getElem hi⟩
      have e1 := ihn x (List.mem_of_getElem? hx)
      have hlt : (i : Int) < (l.length : Int) := by omega
      have hw := wrap_succ hi (by omega)
      have hft := frees_take hx []
      have wx := wn i (List.mem_range.2 hi) x (List.mem_of_getElem? hx)
      have hxl := hsm i x hx
      generalize x.free = S at *
      obtain ⟨kx, tx, nx, lx⟩ := x
      rw [X.v_mk] at e1
      simp -implicitDefEqProofs only [c20_l1, ↓v_lenS, SB, POp.val, AOp.val, WOp.val, Lite.bin, intBin, strBin, eqv, eqMany, eq1, AV.asBool, AV.asInt, AV.asNat, AV.asPtr, AV.asStr, resVals, ResV.val, oneOr, wants, skipped, fillAt, putAt, capOf, optNat, bnd, Nat.reduceBEq, reduceIte, Nat.reduceAdd, Nat.reduceLeDiff, Nat.reduceEqDiff, Nat.reduceSub, Nat.reduceMul, Nat.reduceDiv, SOper.again, same, sameBlk, sameCap, Nat.reduceBneDiff, s_draw2, s_pair, k_pair, asunder, SOper.into, Bool.not_false, Bool.not_true, CL, XS, g0, h1, h3, h4, hlt, iaddr_vXs hx, e1]
      refine loop_rounds S.length (fun j fr H => ∃ o, (∀ H, shutV o H = some (vStrs ((S.take j).foldl withS (X.frees (l.take i) [])), H)) ∧ fr 3 = o ∧ H.t.get 0 = some (.row [.int .i64 k, .str t, vStrs ns, vXs l] 0 false (some 28)) ∧ fr 1 = .ptr (.new 0) 0 ∧ fr 4 = .int .i64 i ∧ fr 5 = vStrs S ∧ fr 6 = .int .i64 j) ?_ ?_ n 0 _ _ (by omega) (by omega) ?_
      · rintro j fr H K2 hj ⟨o, ho, h3, g0, h1, h4, h5, h6⟩ hKe2 hKr2 hK2
        obtain ⟨s, hs⟩ : ∃ s, S[j]? = some s := ⟨S[j], List.getElem?_eq_getElem hj⟩
        have e2 := wx j (List.mem_range.2 hj) s (List.mem_of_getElem? hs)
        have hlt2 : (j : Int) < (S.length : Int) := by omega
        have hw2 := wrap_succ hj (by omega)
        have hst : (S.take (j + 1)).foldl withS (X.frees (l.take i) []) = withS ((S.take j).foldl withS (X.frees (l.take i) [])) s := by
          rw [List.take_add_one, hs, Option.toList_some, List.foldl_append]; rfl
        simp -implicitDefEqProofs only [c20_l0, ↓v_lenS, SB, POp.val, AOp.val, WOp.val, Lite.bin, intBin, strBin, eqv, eqMany, eq1, AV.asBool, AV.asInt, AV.asNat, AV.asPtr, AV.asStr, resVals, ResV.val, oneOr, wants, skipped, fillAt, putAt, capOf, optNat, bnd, Nat.reduceBEq, reduceIte, Nat.reduceAdd, Nat.reduceLeDiff, Nat.reduceEqDiff, Nat.reduceSub, Nat.reduceMul, Nat.reduceDiv, SOper.again, same, sameBlk, sameCap, Nat.reduceBneDiff, s_draw2, s_pair, k_pair, asunder, SOper.into, Bool.not_false, Bool.not_true, CL, XS, h3, h5, h6, hlt2, iaddr_vStrs hs, ho, e2, hw2]
        refine hK2 _ _ ⟨vStrs ((S.take (j + 1)).foldl withS (X.frees (l.take i) [])), fun H => shutV_vStrs, ?_, g0, ?_⟩
        · rw [hst]; simp -implicitDefEqProofs only [↓v_lenS, SB, POp.val, AOp.val, WOp.val, Lite.bin, intBin, strBin, eqv, eqMany, eq1, AV.asBool, AV.asInt, AV.asNat, AV.asPtr, AV.asStr, resVals, ResV.val, oneOr, wants, skipped, fillAt, putAt, capOf, optNat, bnd, Nat.reduceBEq, reduceIte, Nat.reduceAdd, Nat.reduceLeDiff, Nat.reduceEqDiff, Nat.reduceSub, Nat.reduceMul, Nat.reduceDiv, SOper.again, same, sameBlk, sameCap, Nat.reduceBneDiff, s_draw2, s_pair, k_pair, asunder, SOper.into, Bool.not_false, Bool.not_true]
        · simp -implicitDefEqProofs only [↓v_lenS, SB, POp.val, AOp.val, WOp.val, Lite.bin, intBin, strBin, eqv, eqMany, eq1, AV.asBool, AV.asInt, AV.asNat, AV.asPtr, AV.asStr, resVals, ResV.val, oneOr, wants, skipped, fillAt, putAt, capOf, optNat, bnd, Nat.reduceBEq, reduceIte, Nat.reduceAdd, Nat.reduceLeDiff, Nat.reduceEqDiff, Nat.reduceSub, Nat.reduceMul, Nat.reduceDiv, SOper.again, same, sameBlk, sameCap, Nat.reduceBneDiff, s_draw2, s_pair, k_pair, asunder, SOper.into, Bool.not_false, Bool.not_true, h1, h4, h5]
      · rintro fr H K2 ⟨o, ho, h3, g0, h1, h4, h5, h6⟩ hKe2 hKr2
        rw [List.take_length, ← hft] at ho
        simp -implicitDefEqProofs only [c20_l0, ↓v_lenS, SB, POp.val, AOp.val, WOp.val, Lite.bin, intBin, strBin, eqv, eqMany, eq1, AV.asBool, AV.asInt, AV.asNat, AV.asPtr, AV.asStr, resVals, ResV.val, oneOr, wants, skipped, fillAt, putAt, capOf, optNat, bnd, Nat.reduceBEq, reduceIte, Nat.reduceAdd, Nat.reduceLeDiff, Nat.reduceEqDiff, Nat.reduceSub, Nat.reduceMul, Nat.reduceDiv, SOper.again, same, sameBlk, sameCap, Nat.reduceBneDiff, s_draw2, s_pair, k_pair, asunder, SOper.into, Bool.not_false, Bool.not_true, CL, XS, h3, h4, h5, h6, Int.lt_irrefl, hKe2, hw]
        refine hK _ _ ⟨o, ho, ?_, g0, ?_⟩
        · simp -implicitDefEqProofs only [↓v_lenS, SB, POp.val, AOp.val, WOp.val, Lite.bin, intBin, strBin, eqv, eqMany, eq1, AV.asBool, AV.asInt, AV.asNat, AV.asPtr, AV.asStr, resVals, ResV.val, oneOr, wants, skipped, fillAt, putAt, capOf, optNat, bnd, Nat.reduceBEq, reduceIte, Nat.reduceAdd, Nat.reduceLeDiff, Nat.reduceEqDiff, Nat.reduceSub, Nat.reduceMul, Nat.reduceDiv, SOper.again, same, sameBlk, sameCap, Nat.reduceBneDiff, s_draw2, s_pair, k_pair, asunder, SOper.into, Bool.not_false, Bool.not_true, h3]
        · simp -implicitDefEqProofs only [↓v_lenS, SB, POp.val, AOp.val, WOp.val, Lite.bin, intBin, strBin, eqv, eqMany, eq1, AV.asBool, AV.asInt, AV.asNat, AV.asPtr, AV.asStr, resVals, ResV.val, oneOr, wants, skipped, fillAt, putAt, capOf, optNat, bnd, Nat.reduceBEq, reduceIte, Nat.reduceAdd, Nat.reduceLeDiff, Nat.reduceEqDiff, Nat.reduceSub, Nat.reduceMul, Nat.reduceDiv, SOper.again, same, sameBlk, sameCap, Nat.reduceBneDiff, s_draw2, s_pair, k_pair, asunder, SOper.into, Bool.not_false, Bool.not_true, h1]
      · refine ⟨o, ho, ?_, g0, ?_⟩
        · simp -implicitDefEqProofs only [↓v_lenS, SB, POp.val, AOp.val, WOp.val, Lite.bin, intBin, strBin, eqv, eqMany, eq1, AV.asBool, AV.asInt, AV.asNat, AV.asPtr, AV.asStr, resVals, ResV.val, oneOr, wants, skipped, fillAt, putAt, capOf, optNat, bnd, Nat.reduceBEq, reduceIte, Nat.reduceAdd, Nat.reduceLeDiff, Nat.reduceEqDiff, Nat.reduceSub, Nat.reduceMul, Nat.reduceDiv, SOper.again, same, sameBlk, sameCap, Nat.reduceBneDiff, s_draw2, s_pair, k_pair, asunder, SOper.into, Bool.not_false, Bool.not_true, h3]
        · simp -implicitDefEqProofs only [↓v_lenS, SB, POp.val, AOp.val, WOp.val, Lite.bin, intBin, strBin, eqv, eqMany, eq1, AV.asBool, AV.asInt, AV.asNat, AV.asPtr, AV.asStr, resVals, ResV.val, oneOr, wants, skipped, fillAt, putAt, capOf, optNat, bnd, Nat.reduceBEq, reduceIte, Nat.reduceAdd, Nat.reduceLeDiff, Nat.reduceEqDiff, Nat.reduceSub, Nat.reduceMul, Nat.reduceDiv, SOper.again, same, sameBlk, sameCap, Nat.reduceBneDiff, s_draw2, s_pair, k_pair, asunder, SOper.into, Bool.not_false, Bool.not_true, h1, h4]
          rfl
    · rintro fr H K' ⟨o, ho, h3, g0, h1, h4⟩ hKe hKr
      rw [List.take_length] at ho
      simp -implicitDefEqProofs only [c20_l1, ↓v_lenS, SB, POp.val, AOp.val, WOp.val, Lite.bin, intBin, strBin, eqv, eqMany, eq1, AV.asBool, AV.asInt, AV.asNat, AV.asPtr, AV.asStr, resVals, ResV.val, oneOr, wants, skipped, fillAt, putAt, capOf, optNat, bnd, Nat.reduceBEq, reduceIte, Nat.reduceAdd, Nat.reduceLeDiff, Nat.reduceEqDiff, Nat.reduceSub, Nat.reduceMul, Nat.reduceDiv, SOper.again, same, sameBlk, sameCap, Nat.reduceBneDiff, s_draw2, s_pair, k_pair, asunder, SOper.into, Bool.not_false, Bool.not_true, CL, XS, g0, h1, h3, h4, Int.lt_irrefl, hKe, ho, on, Ends, gives_ret]
      exact ⟨_, rfl⟩
    · refine ⟨.nils, fun H => rfl, ?_, ?_, ?_⟩
      · simp -implicitDefEqProofs only [↓v_lenS, SB, POp.val, AOp.val, WOp.val, Lite.bin, intBin, strBin, eqv, eqMany, eq1, AV.asBool, AV.asInt, AV.asNat, AV.asPtr, AV.asStr, resVals, ResV.val, oneOr, wants, skipped, fillAt, putAt, capOf, optNat, bnd, Nat.reduceBEq, reduceIte, Nat.reduceAdd, Nat.reduceLeDiff, Nat.reduceEqDiff, Nat.reduceSub, Nat.reduceMul, Nat.reduceDiv, SOper.again, same, sameBlk, sameCap, Nat.reduceBneDiff, s_draw2, s_pair, k_pair, asunder, SOper.into, Bool.not_false, Bool.not_true]
      · simp -implicitDefEqProofs only [↓v_lenS, SB, POp.val, AOp.val, WOp.val, Lite.bin, intBin, strBin, eqv, eqMany, eq1, AV.asBool, AV.asInt, AV.asNat, AV.asPtr, AV.asStr, resVals, ResV.val, oneOr, wants, skipped, fillAt, putAt, capOf, optNat, bnd, Nat.reduceBEq, reduceIte, Nat.reduceAdd, Nat.reduceLeDiff, Nat.reduceEqDiff, Nat.reduceSub, Nat.reduceMul, Nat.reduceDiv, SOper.again, same, sameBlk, sameCap, Nat.reduceBneDiff, s_draw2, s_pair, k_pair, asunder, SOper.into, Bool.not_false, Bool.not_true]
      · simp -implicitDefEqProofs only [↓v_lenS, SB, POp.val, AOp.val, WOp.val, Lite.bin, intBin, strBin, eqv, eqMany, eq1, AV.asBool, AV.asInt, AV.asNat, AV.asPtr, AV.asStr, resVals, ResV.val, oneOr, wants, skipped, fillAt, putAt, capOf, optNat, bnd, Nat.reduceBEq, reduceIte, Nat.reduceAdd, Nat.reduceLeDiff, Nat.reduceEqDiff, Nat.reduceSub, Nat.reduceMul, Nat.reduceDiv, SOper.again, same, sameBlk, sameCap, Nat.reduceBneDiff, s_draw2, s_pair, k_pair, asunder, SOper.into, Bool.not_false, Bool.not_true]
        rfl

end Go.Lite

/-
  Names that are bound, gathered; arguments that are no atoms, counted.
-/
namespace Go.Lite
open Go Go.Proofs
set_option maxRecDepth 100000
set_option linter.unusedSimpArgs false
set_option linter.unusedVariables false

theorem bnds_append (a b : List X) : X.bnds (a ++ b) = X.bnds a ++ X.bnds b := by
  induction a with
  | nil => rfl
  | cons x a ih => rw [List.cons_append, X.bnds, X.bnds, ih, List.append_assoc]
theorem bnds_take {l : List X} {i : Nat} {x : X} (h : l[i]? = some x) : X.bnds (l.take (i + 1)) = X.bnds (l.take i) ++ x.bnd := by
  rw [List.take_add_one, h, Option.toList_some, bnds_append]
  simp [X.bnds]
theorem bnds_mem {l : List X} {x : X} (h : x ∈ l) : x.bnd.length ≤ (X.bnds l).length := by
  induction l with
  | nil => cases h
  | cons y l ih =>
    rw [X.bnds, List.length_append]
    rcases List.mem_cons.1 h with rfl | h
    · omega
    · have := ih h; omega

/-- a list has grown: what is not appended to is there, and all that stood below -/
structure Grew (N : Nat) (H H' : Heap) : Prop where
  firm : HKeep loose H H'
  below : ∀ j o, j < N → H.t.get j = some o → H'.t.get j = some o

theorem Grew.refl {N : Nat} {H : Heap} : Grew N H H := ⟨HKeep.refl, fun _ _ _ h => h⟩
theorem Grew.trans {N : Nat} {A B C : Heap} (h : Grew N A B) (k : Grew N B C) : Grew N A C := ⟨h.firm.trans k.firm, fun j o hj hg => k.below j o hj (h.below j o hj hg)⟩
theorem Grew.push {N : Nat} {H : Heap} (low : HLow H) {ob : Obj} : Grew N H (H.push ob) := ⟨HKeep.push low, fun j o _ hg => by rw [h_get, if_neg (by have := low.lt hg; omega)]; exact hg⟩
theorem Acc.grew {N : Nat} {H H' : Heap} {e es n : Nat} {cells : List AV} {v : AV} (h : Acc N H e es n cells v) (hes : es ≠ 0) (kp : HKeep (blk v) H H') : Grew N H H' :=
  ⟨h.firm hes kp, fun j o hj hg => kp.get j o hg fun ⟨a, b, c, e⟩ => by
    rcases h with ⟨_, _, h⟩ | ⟨_, _, k, h, h3, _⟩
    · rw [h] at e; cases e
    · rw [h] at e
      simp only [AV.slice.injEq, Blk.new.injEq] at e
      omega⟩
theorem Grew.row {N : Nat} {H H' : Heap} (h : Grew N H H') {j : Nat} {cs : List AV} {fz : Bool} {ty : Option Nat} (hj : H.t.get j = some (.row cs 0 fz ty)) : H'.t.get j = some (.row cs 0 fz ty) := h.firm.get j _ hj loose_row

def BoundOk (x : X) (n : Nat) : Prop := ∀ (N m : Nat) (cells : List AV) (v : AV) (H : Heap), N ≤ H.n → HLow H → m + x.bnd.length ≤ 1048576 → Acc N H 9 1 m cells v →
  Gives (callN P3 n 22 [x.v, v] H) fun w H' => Acc N H' 9 1 (m + x.bnd.length) (cells ++ x.bnd.flatMap str1) w ∧ Grew N H H' ∧ HLow H'

theorem code_raw {n : Nat} {xs : List AV} {H : Heap} (hl : Nat.ble xs.length c22.nt = true) : callN P3 (n + 1) 22 xs H = c22.body.run (callN P3 n) n (initFr xs) H (finish c22.res) := callN_code rfl (code22 _ _) rfl hl

set_option maxHeartbeats 1000000 in
theorem bound22 : ∀ x : X, x.bnd.length ≤ 1048576 → x.fit → Ev (BoundOk x) := X.indA fun k t ns l ih hb hf => by
  rw [X.bnd, List.length_append] at hb
  obtain ⟨f1, f2, f3⟩ := hf
  have f3 := (X.fits_iff l).1 f3
  refine Ev.succ (((Ev.all l fun x hx => ih x hx (by have := bnds_mem hx; omega) (f3 x hx)).and (Ev.ge (l.length + 1))).mono fun n hn N m cells v H hN low hm acc => ?_)
  obtain ⟨ihn, hge⟩ := hn
  rw [X.bnd, List.length_append] at hm
  rw [X.bnd, code_raw rfl]
  have low1 := low.push (ob := .row [.int .i64 k, .str t, vStrs ns, vXs l] 0 false (some 28))
  have accp := acc.push low (ob := .row [.int .i64 k, .str t, vStrs ns, vXs l] 0 false (some 28))
  obtain ⟨v1, H1, ha1, acc1, kp1, lowH1⟩ := accp.more (e := 9) (bs := 16) (m := ns.length) (ys := ns.flatMap str1) (by simp only [h_n]; omega) low1 (by decide) (by rw [flat_len str1_len ns]) (strs_flat ns) (by omega)
  have tk : ∀ H, taken 1 H (vStrs ns) = some (ns.length, ns.flatMap str1) := fun H => taken_vStrs
  have gw1 : Grew N H H1 := (Grew.push low).trans (accp.grew (by decide) kp1)
  have g1 := (accp.grew (by decide) kp1).row (j := H.n) (by rw [h_get, if_pos rfl])
  have hn1 := gw1.firm.n
  simp -implicitDefEqProofs only [c22, ↓v_lenS, SB, POp.val, AOp.val, WOp.val, Lite.bin, intBin, strBin, eqv, eqMany, eq1, AV.asBool, AV.asInt, AV.asNat, AV.asPtr, AV.asStr, resVals, ResV.val, oneOr, wants, skipped, fillAt, putAt, capOf, optNat, bnd, Nat.reduceBEq, reduceIte, Nat.reduceAdd, Nat.reduceLeDiff, Nat.reduceEqDiff, Nat.reduceSub, Nat.reduceMul, Nat.reduceDiv, SOper.again, same, sameBlk, sameCap, Nat.reduceBneDiff, s_draw2, s_pair, k_pair, asunder, SOper.into, Bool.not_false, Bool.not_true, CL, XS, tk, ha1]
  refine loop_rounds l.length (fun i fr H2 => ∃ u, Acc N H2 9 1 (m + ns.length + (X.bnds (l.take i)).length) (cells ++ ns.flatMap str1 ++ (X.bnds (l.take i)).flatMap str1) u ∧ Grew N H H2 ∧ HLow H2 ∧ N ≤ H2.n ∧ fr 1 = u ∧ fr 2 = .ptr (.new H.n) 0 ∧ fr 5 = .int .i64 i ∧ H2.t.get H.n = some (.row [.int .i64 k, .str t, vStrs ns, vXs l] 0 false (some 28))) ?_ ?_ n 0 _ _ (by omega) (by omega) ?_
  · rintro i fr H2 K' hi ⟨u, accu, gw, low2, hN2, r1, r2, r5, gb⟩ hKe hKr hK
    obtain ⟨x, hx⟩ : ∃ x, l[i]? = some x := ⟨l[i], List.getElem?_eq_getElem hi⟩
    have hlt : (i : Int) < (l.length : Int) := by omega
    have hw := wrap_succ hi (by omega)
    have hbt := bnds_take hx
    have hble : (X.bnds (l.take (i + 1))).length ≤ (X.bnds l).length := by
      conv => rhs; rw [← List.take_append_drop (i + 1) l, bnds_append, List.length_append]
      omega
    rw [hbt, List.length_append] at hble
    have e1 := ihn x (List.mem_of_getElem? hx) N _ _ u H2 hN2 low2 (by omega) accu
    obtain ⟨kx, tx, nx, lx⟩ := x
    rw [X.v_mk] at e1
    simp -implicitDefEqProofs only [c22_l0, ↓v_lenS, SB, POp.val, AOp.val, WOp.val, Lite.bin, intBin, strBin, eqv, eqMany, eq1, AV.asBool, AV.asInt, AV.asNat, AV.asPtr, AV.asStr, resVals, ResV.val, oneOr, wants, skipped, fillAt, putAt, capOf, optNat, bnd, Nat.reduceBEq, reduceIte, Nat.reduceAdd, Nat.reduceLeDiff, Nat.reduceEqDiff, Nat.reduceSub, Nat.reduceMul, Nat.reduceDiv, SOper.again, same, sameBlk, sameCap, Nat.reduceBneDiff, s_draw2, s_pair, k_pair, asunder, SOper.into, Bool.not_false, Bool.not_true, CL, XS, r1, r2, r5, gb, hlt, iaddr_vXs hx]
    refine gives_call e1 ?_
    rintro w H5 ⟨accw, gw5, low5⟩
    simp -implicitDefEqProofs only [↓v_lenS, SB, POp.val, AOp.val, WOp.val, Lite.bin, intBin, strBin, eqv, eqMany, eq1, AV.asBool, AV.asInt, AV.asNat, AV.asPtr, AV.asStr, resVals, ResV.val, oneOr, wants, skipped, fillAt, putAt, capOf, optNat, bnd, Nat.reduceBEq, reduceIte, Nat.reduceAdd, Nat.reduceLeDiff, Nat.reduceEqDiff, Nat.reduceSub, Nat.reduceMul, Nat.reduceDiv, SOper.again, same, sameBlk, sameCap, Nat.reduceBneDiff, s_draw2, s_pair, k_pair, asunder, SOper.into, Bool.not_false, Bool.not_true, CL, XS, r1, r2, r5, hw]
    refine hK _ _ ⟨w, ?_, gw.trans gw5, low5, Nat.le_trans hN2 gw5.firm.n, ?_, ?_, ?_, gw5.row gb⟩
    · rw [hbt, List.length_append, List.flatMap_append, ← List.append_assoc, ← Nat.add_assoc]; exact accw
    · simp -implicitDefEqProofs only [↓v_lenS, SB, POp.val, AOp.val, WOp.val, Lite.bin, intBin, strBin, eqv, eqMany, eq1, AV.asBool, AV.asInt, AV.asNat, AV.asPtr, AV.asStr, resVals, ResV.val, oneOr, wants, skipped, fillAt, putAt, capOf, optNat, bnd, Nat.reduceBEq, reduceIte, Nat.reduceAdd, Nat.reduceLeDiff, Nat.reduceEqDiff, Nat.reduceSub, Nat.reduceMul, Nat.reduceDiv, SOper.again, same, sameBlk, sameCap, Nat.reduceBneDiff, s_draw2, s_pair, k_pair, asunder, SOper.into, Bool.not_false, Bool.not_true]
    · simp -implicitDefEqProofs only [↓v_lenS, SB, POp.val, AOp.val, WOp.val, Lite.bin, intBin, strBin, eqv, eqMany, eq1, AV.asBool, AV.asInt, AV.asNat, AV.asPtr, AV.asStr, resVals, ResV.val, oneOr, wants, skipped, fillAt, putAt, capOf, optNat, bnd, Nat.reduceBEq, reduceIte, Nat.reduceAdd, Nat.reduceLeDiff, Nat.reduceEqDiff, Nat.reduceSub, Nat.reduceMul, Nat.reduceDiv, SOper.again, same, sameBlk, sameCap, Nat.reduceBneDiff, s_draw2, s_pair, k_pair, asunder, SOper.into, Bool.not_false, Bool.not_true, r2]
    · simp -implicitDefEqProofs only [↓v_lenS, SB, POp.val, AOp.val, WOp.val, Lite.bin, intBin, strBin, eqv, eqMany, eq1, AV.asBool, AV.asInt, AV.asNat, AV.asPtr, AV.asStr, resVals, ResV.val, oneOr, wants, skipped, fillAt, putAt, capOf, optNat, bnd, Nat.reduceBEq, reduceIte, Nat.reduceAdd, Nat.reduceLeDiff, Nat.reduceEqDiff, Nat.reduceSub, Nat.reduceMul, Nat.reduceDiv, SOper.again, same, sameBlk, sameCap, Nat.reduceBneDiff, s_draw2, s_pair, k_pair, asunder, SOper.into, Bool.not_false, Bool.not_true]
  · rintro fr H2 K' ⟨u, accu, gw, low2, hN2, r1, r2, r5, gb⟩ hKe hKr
    rw [List.take_length] at accu
    simp -implicitDefEqProofs only [c22_l0, ↓v_lenS, SB, POp.val, AOp.val, WOp.val, Lite.bin, intBin, strBin, eqv, eqMany, eq1, AV.asBool, AV.asInt, AV.asNat, AV.asPtr, AV.asStr, resVals, ResV.val, oneOr, wants, skipped, fillAt, putAt, capOf, optNat, bnd, Nat.reduceBEq, reduceIte, Nat.reduceAdd, Nat.reduceLeDiff, Nat.reduceEqDiff, Nat.reduceSub, Nat.reduceMul, Nat.reduceDiv, SOper.again, same, sameBlk, sameCap, Nat.reduceBneDiff, s_draw2, s_pair, k_pair, asunder, SOper.into, Bool.not_false, Bool.not_true, CL, XS, r1, r2, r5, gb, Int.lt_irrefl, hKe, gives_ret]
    refine ⟨?_, gw, low2⟩
    rw [List.length_append, List.flatMap_append, ← List.append_assoc, ← Nat.add_assoc]
    exact accu
  · refine ⟨v1, ?_, gw1, lowH1, by omega, ?_, ?_, ?_, g1⟩
    · rw [List.take_zero, X.bnds]
      simpa using acc1
    · simp -implicitDefEqProofs only [↓v_lenS, SB, POp.val, AOp.val, WOp.val, Lite.bin, intBin, strBin, eqv, eqMany, eq1, AV.asBool, AV.asInt, AV.asNat, AV.asPtr, AV.asStr, resVals, ResV.val, oneOr, wants, skipped, fillAt, putAt, capOf, optNat, bnd, Nat.reduceBEq, reduceIte, Nat.reduceAdd, Nat.reduceLeDiff, Nat.reduceEqDiff, Nat.reduceSub, Nat.reduceMul, Nat.reduceDiv, SOper.again, same, sameBlk, sameCap, Nat.reduceBneDiff, s_draw2, s_pair, k_pair, asunder, SOper.into, Bool.not_false, Bool.not_true]
    · simp -implicitDefEqProofs only [↓v_lenS, SB, POp.val, AOp.val, WOp.val, Lite.bin, intBin, strBin, eqv, eqMany, eq1, AV.asBool, AV.asInt, AV.asNat, AV.asPtr, AV.asStr, resVals, ResV.val, oneOr, wants, skipped, fillAt, putAt, capOf, optNat, bnd, Nat.reduceBEq, reduceIte, Nat.reduceAdd, Nat.reduceLeDiff, Nat.reduceEqDiff, Nat.reduceSub, Nat.reduceMul, Nat.reduceDiv, SOper.again, same, sameBlk, sameCap, Nat.reduceBneDiff, s_draw2, s_pair, k_pair, asunder, SOper.into, Bool.not_false, Bool.not_true]
    · simp -implicitDefEqProofs only [↓v_lenS, SB, POp.val, AOp.val, WOp.val, Lite.bin, intBin, strBin, eqv, eqMany, eq1, AV.asBool, AV.asInt, AV.asNat, AV.asPtr, AV.asStr, resVals, ResV.val, oneOr, wants, skipped, fillAt, putAt, capOf, optNat, bnd, Nat.reduceBEq, reduceIte, Nat.reduceAdd, Nat.reduceLeDiff, Nat.reduceEqDiff, Nat.reduceSub, Nat.reduceMul, Nat.reduceDiv, SOper.again, same, sameBlk, sameCap, Nat.reduceBneDiff, s_draw2, s_pair, k_pair, asunder, SOper.into, Bool.not_false, Bool.not_true]
      rfl

/-! ### Arguments that are no atoms -/

theorem thicks_append (a b : List X) (m i : Nat) : X.thicks (a ++ b) m i = X.thicks a m i + X.thicks b m (i + a.length) := by
  induction a generalizing i with
  | nil => simp [X.thicks]
  | cons x a ih => rw [List.cons_append, X.thicks, X.thicks, ih, List.length_cons, show i + 1 + a.length = i + (a.length + 1) by omega]; omega
theorem thicks_take {l : List X} {i : Nat} {x : X} (h : l[i]? = some x) (m : Nat) : X.thicks (l.take (i + 1)) m 0 = X.thicks (l.take i) m 0 + (x.thick + (if m ≤ i ∧ x.atom = false then 1 else 0)) := by
  have hj := (List.getElem?_eq_some_iff.1 h).1
  have hlen : (l.take i).length = i := by rw [List.length_take]; omega
  rw [List.take_add_one, h, Option.toList_some, thicks_append, hlen, X.thicks, X.thicks]
  simp
theorem thicks_take_le (l : List X) (m i : Nat) : X.thicks (l.take i) m 0 ≤ X.thicks l m 0 := by
  conv => rhs; rw [← List.take_append_drop i l, thicks_append]
  omega

set_option maxHeartbeats 2000000 in
theorem thick24 : ∀ x : X, x.thick ≤ 1048576 → x.fit → Ret P3 24 [x.v] (.int .i64 x.thick) := X.indA fun k t ns l ih hb hf => by
  rw [X.thick] at hb
  obtain ⟨f1, f2, f3⟩ := hf
  have f3 := (X.fits_iff l).1 f3
  refine Ret.of rfl (code24 _ _) rfl rfl (fun H => by simp -implicitDefEqProofs only [mapHM_nil, mapHM_cons, X.shut, Option.bind_some, Option.map_some]) ?_
  refine ((Ev.all l fun x hx => ih x hx (by have := thicks_mem hx ((must k t).getD l.length) 0; omega) (f3 x hx)).and ((Ev.all l fun x _ => atom36 x).and (Ev.ge (l.length + 1)))).mono fun n hn H => ?_
  obtain ⟨ihn, han, hge⟩ := hn
  rw [X.thick]
  -- whether the i-th part must be an atom
  have hmust : ∀ i, i < l.length → ((k == 7) = true ∧ (((i : Int) > 0 ∧ (must k t).getD l.length ≤ i) ∨ (¬ (i : Int) > 0 ∧ ¬ (must k t).getD l.length ≤ i ∧ (k == 10) = false))) ∨ ((k == 7) = false ∧ (k == 10) = true ∧ (t == [99, 111, 110, 115]) = true ∧ (must k t).getD l.length ≤ i) ∨ ((k == 7) = false ∧ (k == 10) = true ∧ (t == [99, 111, 110, 115]) = false ∧ ¬ (must k t).getD l.length ≤ i) ∨ ((k == 7) = false ∧ (k == 10) = false ∧ ¬ (must k t).getD l.length ≤ i) := fun i hi => by
    rcases must_cases k t with ⟨h1, hm⟩ | ⟨h1, h2, h3, hm⟩ | ⟨h1, h2 | ⟨h2, h3⟩, hm⟩
    · rw [hm, Option.getD_some]
      refine .inl ⟨h1, ?_⟩
      by_cases h0 : (i : Int) > 0
      · exact .inl ⟨h0, by omega⟩
      · refine .inr ⟨h0, by omega, ?_⟩
        have : k = 7 := by simpa using h1
        rw [this]; rfl
    · rw [hm, Option.getD_some]
      exact .inr (.inl ⟨h1, h2, h3, by omega⟩)
    · rw [hm, Option.getD_none]
      exact .inr (.inr (.inr ⟨h1, h2, by omega⟩))
    · rw [hm, Option.getD_none]
      exact .inr (.inr (.inl ⟨h1, h2, h3, by omega⟩))
  generalize (must k t).getD l.length = m at *
  simp -implicitDefEqProofs only [c24, ↓v_lenS, SB, POp.val, AOp.val, WOp.val, Lite.bin, intBin, strBin, eqv, eqMany, eq1, AV.asBool, AV.asInt, AV.asNat, AV.asPtr, AV.asStr, resVals, ResV.val, oneOr, wants, skipped, fillAt, putAt, capOf, optNat, bnd, Nat.reduceBEq, reduceIte, Nat.reduceAdd, Nat.reduceLeDiff, Nat.reduceEqDiff, Nat.reduceSub, Nat.reduceMul, Nat.reduceDiv, SOper.again, same, sameBlk, sameCap, Nat.reduceBneDiff, s_draw2, s_pair, k_pair, asunder, SOper.into, Bool.not_false, Bool.not_true, CL, XS]
  refine loop_rounds l.length (fun i fr H => fr 3 = .int .i64 (X.thicks (l.take i) m 0) ∧ H.t.get 0 = some (.row [.int .i64 k, .str t, vStrs ns, vXs l] 0 false (some 28)) ∧ fr 1 = .ptr (.new 0) 0 ∧ fr 4 = .int .i64 i) ?_ ?_ n 0 _ _ (by omega) (by omega) ?_
  · rintro i fr H K' hi ⟨h3, g0, h1, h4⟩ hKe hKr hK
    obtain ⟨x, hx⟩ : ∃ x, l[i]? = some x := ⟨l[i], List.getElem?_eq_getElem hi⟩
    have e1 := ihn x (List.mem_of_getElem? hx)
    have e2 := han x (List.mem_of_getElem? hx)
    have hlt : (i : Int) < (l.length : Int) := by omega
    have hw := wrap_succ hi (by omega)
    have htk := thicks_take hx m
    have hle := thicks_take_le l m (i + 1)
    rw [htk] at hle
    have hw1 : IntKind.i64.wrap (((X.thicks (l.take i) m 0 : Nat) : Int) + ((x.thick : Nat) : Int)) = ((X.thicks (l.take i) m 0 + x.thick : Nat) : Int) := wrap_nat (by omega)
    have hw2 : IntKind.i64.wrap (((X.thicks (l.take i) m 0 + x.thick : Nat) : Int) + 1) = ((X.thicks (l.take i) m 0 + x.thick + 1 : Nat) : Int) := by rw [wrap64 (by omega) (by omega)]; rfl
    have hyes : m ≤ i → x.atom = false → X.thicks (l.take (i + 1)) m 0 = X.thicks (l.take i) m 0 + x.thick + 1 := fun h1 h2 => by rw [htk, if_pos ⟨h1, h2⟩]; omega
    have hno : ¬ (m ≤ i ∧ x.atom = false) → X.thicks (l.take (i + 1)) m 0 = X.thicks (l.take i) m 0 + x.thick := fun h => by rw [htk, if_neg h]; omega
    generalize X.thicks (l.take i) m 0 = T at *
    cases ha : x.atom with
    | true =>
      rw [ha] at e2
      generalize x.thick = tx at *
      replace hno := hno (by rw [ha]; simp)
      obtain ⟨kx, ttx, nx, lx⟩ := x
      simp only [X.v_mk] at e1 e2
      rcases hmust i hi with ⟨q1, ⟨q2, q3⟩ | ⟨q2, q3, q4⟩⟩ | ⟨q1, q2, q3, q4⟩ | ⟨q1, q2, q3, q4⟩ | ⟨q1, q2, q3⟩
      · simp -implicitDefEqProofs only [c24_l0, ↓v_lenS, SB, POp.val, AOp.val, WOp.val, Lite.bin, intBin, strBin, eqv, eqMany, eq1, AV.asBool, AV.asInt, AV.asNat, AV.asPtr, AV.asStr, resVals, ResV.val, oneOr, wants, skipped, fillAt, putAt, capOf, optNat, bnd, Nat.reduceBEq, reduceIte, Nat.reduceAdd, Nat.reduceLeDiff, Nat.reduceEqDiff, Nat.reduceSub, Nat.reduceMul, Nat.reduceDiv, SOper.again, same, sameBlk, sameCap, Nat.reduceBneDiff, s_draw2, s_pair, k_pair, asunder, SOper.into, Bool.not_false, Bool.not_true, CL, XS, g0, h1, h3, h4, hlt, iaddr_vXs hx, e1, e2, hw, hw1, hw2, q1, q2]
        refine hK _ _ ?_
        simp -implicitDefEqProofs only [↓v_lenS, SB, POp.val, AOp.val, WOp.val, Lite.bin, intBin, strBin, eqv, eqMany, eq1, AV.asBool, AV.asInt, AV.asNat, AV.asPtr, AV.asStr, resVals, ResV.val, oneOr, wants, skipped, fillAt, putAt, capOf, optNat, bnd, Nat.reduceBEq, reduceIte, Nat.reduceAdd, Nat.reduceLeDiff, Nat.reduceEqDiff, Nat.reduceSub, Nat.reduceMul, Nat.reduceDiv, SOper.again, same, sameBlk, sameCap, Nat.reduceBneDiff, s_draw2, s_pair, k_pair, asunder, SOper.into, Bool.not_false, Bool.not_true, g0, h1, h3, hno]
      · simp -implicitDefEqProofs only [c24_l0, ↓v_lenS, SB, POp.val, AOp.val, WOp.val, Lite.bin, intBin, strBin, eqv, eqMany, eq1, AV.asBool, AV.asInt, AV.asNat, AV.asPtr, AV.asStr, resVals, ResV.val, oneOr, wants, skipped, fillAt, putAt, capOf, optNat, bnd, Nat.reduceBEq, reduceIte, Nat.reduceAdd, Nat.reduceLeDiff, Nat.reduceEqDiff, Nat.reduceSub, Nat.reduceMul, Nat.reduceDiv, SOper.again, same, sameBlk, sameCap, Nat.reduceBneDiff, s_draw2, s_pair, k_pair, asunder, SOper.into, Bool.not_false, Bool.not_true, CL, XS, g0, h1, h3, h4, hlt, iaddr_vXs hx, e1, e2, hw, hw1, hw2, q1, q2, q4]
        refine hK _ _ ?_
        simp -implicitDefEqProofs only [↓v_lenS, SB, POp.val, AOp.val, WOp.val, Lite.bin, intBin, strBin, eqv, eqMany, eq1, AV.asBool, AV.asInt, AV.asNat, AV.asPtr, AV.asStr, resVals, ResV.val, oneOr, wants, skipped, fillAt, putAt, capOf, optNat, bnd, Nat.reduceBEq, reduceIte, Nat.reduceAdd, Nat.reduceLeDiff, Nat.reduceEqDiff, Nat.reduceSub, Nat.reduceMul, Nat.reduceDiv, SOper.again, same, sameBlk, sameCap, Nat.reduceBneDiff, s_draw2, s_pair, k_pair, asunder, SOper.into, Bool.not_false, Bool.not_true, g0, h1, h3, hno]
      · simp -implicitDefEqProofs only [c24_l0, ↓v_lenS, SB, POp.val, AOp.val, WOp.val, Lite.bin, intBin, strBin, eqv, eqMany, eq1, AV.asBool, AV.asInt, AV.asNat, AV.asPtr, AV.asStr, resVals, ResV.val, oneOr, wants, skipped, fillAt, putAt, capOf, optNat, bnd, Nat.reduceBEq, reduceIte, Nat.reduceAdd, Nat.reduceLeDiff, Nat.reduceEqDiff, Nat.reduceSub, Nat.reduceMul, Nat.reduceDiv, SOper.again, same, sameBlk, sameCap, Nat.reduceBneDiff, s_draw2, s_pair, k_pair, asunder, SOper.into, Bool.not_false, Bool.not_true, CL, XS, g0, h1, h3, h4, hlt, iaddr_vXs hx, e1, e2, hw, hw1, hw2, q1, q2, q3]
        refine hK _ _ ?_
        simp -implicitDefEqProofs only [↓v_lenS, SB, POp.val, AOp.val, WOp.val, Lite.bin, intBin, strBin, eqv, eqMany, eq1, AV.asBool, AV.asInt, AV.asNat, AV.asPtr, AV.asStr, resVals, ResV.val, oneOr, wants, skipped, fillAt, putAt, capOf, optNat, bnd, Nat.reduceBEq, reduceIte, Nat.reduceAdd, Nat.reduceLeDiff, Nat.reduceEqDiff, Nat.reduceSub, Nat.reduceMul, Nat.reduceDiv, SOper.again, same, sameBlk, sameCap, Nat.reduceBneDiff, s_draw2, s_pair, k_pair, asunder, SOper.into, Bool.not_false, Bool.not_true, g0, h1, h3, hno]
      · simp -implicitDefEqProofs only [c24_l0, ↓v_lenS, SB, POp.val, AOp.val, WOp.val, Lite.bin, intBin, strBin, eqv, eqMany, eq1, AV.asBool, AV.asInt, AV.asNat, AV.asPtr, AV.asStr, resVals, ResV.val, oneOr, wants, skipped, fillAt, putAt, capOf, optNat, bnd, Nat.reduceBEq, reduceIte, Nat.reduceAdd, Nat.reduceLeDiff, Nat.reduceEqDiff, Nat.reduceSub, Nat.reduceMul, Nat.reduceDiv, SOper.again, same, sameBlk, sameCap, Nat.reduceBneDiff, s_draw2, s_pair, k_pair, asunder, SOper.into, Bool.not_false, Bool.not_true, CL, XS, g0, h1, h3, h4, hlt, iaddr_vXs hx, e1, e2, hw, hw1, hw2, q1, q2, q3]
        refine hK _ _ ?_
        simp -implicitDefEqProofs only [↓v_lenS, SB, POp.val, AOp.val, WOp.val, Lite.bin, intBin, strBin, eqv, eqMany, eq1, AV.asBool, AV.asInt, AV.asNat, AV.asPtr, AV.asStr, resVals, ResV.val, oneOr, wants, skipped, fillAt, putAt, capOf, optNat, bnd, Nat.reduceBEq, reduceIte, Nat.reduceAdd, Nat.reduceLeDiff, Nat.reduceEqDiff, Nat.reduceSub, Nat.reduceMul, Nat.reduceDiv, SOper.again, same, sameBlk, sameCap, Nat.reduceBneDiff, s_draw2, s_pair, k_pair, asunder, SOper.into, Bool.not_false, Bool.not_true, g0, h1, h3, hno]
      · simp -implicitDefEqProofs only [c24_l0, ↓v_lenS, SB, POp.val, AOp.val, WOp.val, Lite.bin, intBin, strBin, eqv, eqMany, eq1, AV.asBool, AV.asInt, AV.asNat, AV.asPtr, AV.asStr, resVals, ResV.val, oneOr, wants, skipped, fillAt, putAt, capOf, optNat, bnd, Nat.reduceBEq, reduceIte, Nat.reduceAdd, Nat.reduceLeDiff, Nat.reduceEqDiff, Nat.reduceSub, Nat.reduceMul, Nat.reduceDiv, SOper.again, same, sameBlk, sameCap, Nat.reduceBneDiff, s_draw2, s_pair, k_pair, asunder, SOper.into, Bool.not_false, Bool.not_true, CL, XS, g0, h1, h3, h4, hlt, iaddr_vXs hx, e1, e2, hw, hw1, hw2, q1, q2]
        refine hK _ _ ?_
        simp -implicitDefEqProofs only [↓v_lenS, SB, POp.val, AOp.val, WOp.val, Lite.bin, intBin, strBin, eqv, eqMany, eq1, AV.asBool, AV.asInt, AV.asNat, AV.asPtr, AV.asStr, resVals, ResV.val, oneOr, wants, skipped, fillAt, putAt, capOf, optNat, bnd, Nat.reduceBEq, reduceIte, Nat.reduceAdd, Nat.reduceLeDiff, Nat.reduceEqDiff, Nat.reduceSub, Nat.reduceMul, Nat.reduceDiv, SOper.again, same, sameBlk, sameCap, Nat.reduceBneDiff, s_draw2, s_pair, k_pair, asunder, SOper.into, Bool.not_false, Bool.not_true, g0, h1, h3, hno]
    | false =>
      rw [ha] at e2
      generalize x.thick = tx at *
      rcases hmust i hi with ⟨q1, ⟨q2, q3⟩ | ⟨q2, q3, q4⟩⟩ | ⟨q1, q2, q3, q4⟩ | ⟨q1, q2, q3, q4⟩ | ⟨q1, q2, q3⟩
      · replace hyes := hyes q3 ha
        obtain ⟨kx, ttx, nx, lx⟩ := x
        simp only [X.v_mk] at e1 e2
        simp -implicitDefEqProofs only [c24_l0, ↓v_lenS, SB, POp.val, AOp.val, WOp.val, Lite.bin, intBin, strBin, eqv, eqMany, eq1, AV.asBool, AV.asInt, AV.asNat, AV.asPtr, AV.asStr, resVals, ResV.val, oneOr, wants, skipped, fillAt, putAt, capOf, optNat, bnd, Nat.reduceBEq, reduceIte, Nat.reduceAdd, Nat.reduceLeDiff, Nat.reduceEqDiff, Nat.reduceSub, Nat.reduceMul, Nat.reduceDiv, SOper.again, same, sameBlk, sameCap, Nat.reduceBneDiff, s_draw2, s_pair, k_pair, asunder, SOper.into, Bool.not_false, Bool.not_true, CL, XS, g0, h1, h3, h4, hlt, iaddr_vXs hx, e1, e2, hw, hw1, hw2, q1, q2]
        refine hK _ _ ?_
        simp -implicitDefEqProofs only [↓v_lenS, SB, POp.val, AOp.val, WOp.val, Lite.bin, intBin, strBin, eqv, eqMany, eq1, AV.asBool, AV.asInt, AV.asNat, AV.asPtr, AV.asStr, resVals, ResV.val, oneOr, wants, skipped, fillAt, putAt, capOf, optNat, bnd, Nat.reduceBEq, reduceIte, Nat.reduceAdd, Nat.reduceLeDiff, Nat.reduceEqDiff, Nat.reduceSub, Nat.reduceMul, Nat.reduceDiv, SOper.again, same, sameBlk, sameCap, Nat.reduceBneDiff, s_draw2, s_pair, k_pair, asunder, SOper.into, Bool.not_false, Bool.not_true, g0, h1, h3, hyes]
      · replace hno := hno (fun h => q3 h.1)
        obtain ⟨kx, ttx, nx, lx⟩ := x
        simp only [X.v_mk] at e1 e2
        simp -implicitDefEqProofs only [c24_l0, ↓v_lenS, SB, POp.val, AOp.val, WOp.val, Lite.bin, intBin, strBin, eqv, eqMany, eq1, AV.asBool, AV.asInt, AV.asNat, AV.asPtr, AV.asStr, resVals, ResV.val, oneOr, wants, skipped, fillAt, putAt, capOf, optNat, bnd, Nat.reduceBEq, reduceIte, Nat.reduceAdd, Nat.reduceLeDiff, Nat.reduceEqDiff, Nat.reduceSub, Nat.reduceMul, Nat.reduceDiv, SOper.again, same, sameBlk, sameCap, Nat.reduceBneDiff, s_draw2, s_pair, k_pair, asunder, SOper.into, Bool.not_false, Bool.not_true, CL, XS, g0, h1, h3, h4, hlt, iaddr_vXs hx, e1, e2, hw, hw1, hw2, q1, q2, q4]
        refine hK _ _ ?_
        simp -implicitDefEqProofs only [↓v_lenS, SB, POp.val, AOp.val, WOp.val, Lite.bin, intBin, strBin, eqv, eqMany, eq1, AV.asBool, AV.asInt, AV.asNat, AV.asPtr, AV.asStr, resVals, ResV.val, oneOr, wants, skipped, fillAt, putAt, capOf, optNat, bnd, Nat.reduceBEq, reduceIte, Nat.reduceAdd, Nat.reduceLeDiff, Nat.reduceEqDiff, Nat.reduceSub, Nat.reduceMul, Nat.reduceDiv, SOper.again, same, sameBlk, sameCap, Nat.reduceBneDiff, s_draw2, s_pair, k_pair, asunder, SOper.into, Bool.not_false, Bool.not_true, g0, h1, h3, hno]
      · replace hyes := hyes q4 ha
        obtain ⟨kx, ttx, nx, lx⟩ := x
        simp only [X.v_mk] at e1 e2
        simp -implicitDefEqProofs only [c24_l0, ↓v_lenS, SB, POp.val, AOp.val, WOp.val, Lite.bin, intBin, strBin, eqv, eqMany, eq1, AV.asBool, AV.asInt, AV.asNat, AV.asPtr, AV.asStr, resVals, ResV.val, oneOr, wants, skipped, fillAt, putAt, capOf, optNat, bnd, Nat.reduceBEq, reduceIte, Nat.reduceAdd, Nat.reduceLeDiff, Nat.reduceEqDiff, Nat.reduceSub, Nat.reduceMul, Nat.reduceDiv, SOper.again, same, sameBlk, sameCap, Nat.reduceBneDiff, s_draw2, s_pair, k_pair, asunder, SOper.into, Bool.not_false, Bool.not_true, CL, XS, g0, h1, h3, h4, hlt, iaddr_vXs hx, e1, e2, hw, hw1, hw2, q1, q2, q3]
        refine hK _ _ ?_
        simp -implicitDefEqProofs only [↓v_lenS, SB, POp.val, AOp.val, WOp.val, Lite.bin, intBin, strBin, eqv, eqMany, eq1, AV.asBool, AV.asInt, AV.asNat, AV.asPtr, AV.asStr, resVals, ResV.val, oneOr, wants, skipped, fillAt, putAt, capOf, optNat, bnd, Nat.reduceBEq, reduceIte, Nat.reduceAdd, Nat.reduceLeDiff, Nat.reduceEqDiff, Nat.reduceSub, Nat.reduceMul, Nat.reduceDiv, SOper.again, same, sameBlk, sameCap, Nat.reduceBneDiff, s_draw2, s_pair, k_pair, asunder, SOper.into, Bool.not_false, Bool.not_true, g0, h1, h3, hyes]
      · replace hno := hno (fun h => q4 h.1)
        obtain ⟨kx, ttx, nx, lx⟩ := x
        simp only [X.v_mk] at e1 e2
        simp -implicitDefEqProofs only [c24_l0, ↓v_lenS, SB, POp.val, AOp.val, WOp.val, Lite.bin, intBin, strBin, eqv, eqMany, eq1, AV.asBool, AV.asInt, AV.asNat, AV.asPtr, AV.asStr, resVals, ResV.val, oneOr, wants, skipped, fillAt, putAt, capOf, optNat, bnd, Nat.reduceBEq, reduceIte, Nat.reduceAdd, Nat.reduceLeDiff, Nat.reduceEqDiff, Nat.reduceSub, Nat.reduceMul, Nat.reduceDiv, SOper.again, same, sameBlk, sameCap, Nat.reduceBneDiff, s_draw2, s_pair, k_pair, asunder, SOper.into, Bool.not_false, Bool.not_true, CL, XS, g0, h1, h3, h4, hlt, iaddr_vXs hx, e1, e2, hw, hw1, hw2, q1, q2, q3]
        refine hK _ _ ?_
        simp -implicitDefEqProofs only [↓v_lenS, SB, POp.val, AOp.val, WOp.val, Lite.bin, intBin, strBin, eqv, eqMany, eq1, AV.asBool, AV.asInt, AV.asNat, AV.asPtr, AV.asStr, resVals, ResV.val, oneOr, wants, skipped, fillAt, putAt, capOf, optNat, bnd, Nat.reduceBEq, reduceIte, Nat.reduceAdd, Nat.reduceLeDiff, Nat.reduceEqDiff, Nat.reduceSub, Nat.reduceMul, Nat.reduceDiv, SOper.again, same, sameBlk, sameCap, Nat.reduceBneDiff, s_draw2, s_pair, k_pair, asunder, SOper.into, Bool.not_false, Bool.not_true, g0, h1, h3, hno]
      · replace hno := hno (fun h => q3 h.1)
        obtain ⟨kx, ttx, nx, lx⟩ := x
        simp only [X.v_mk] at e1 e2
        simp -implicitDefEqProofs only [c24_l0, ↓v_lenS, SB, POp.val, AOp.val, WOp.val, Lite.bin, intBin, strBin, eqv, eqMany, eq1, AV.asBool, AV.asInt, AV.asNat, AV.asPtr, AV.asStr, resVals, ResV.val, oneOr, wants, skipped, fillAt, putAt, capOf, optNat, bnd, Nat.reduceBEq, reduceIte, Nat.reduceAdd, Nat.reduceLeDiff, Nat.reduceEqDiff, Nat.reduceSub, Nat.reduceMul, Nat.reduceDiv, SOper.again, same, sameBlk, sameCap, Nat.reduceBneDiff, s_draw2, s_pair, k_pair, asunder, SOper.into, Bool.not_false, Bool.not_true, CL, XS, g0, h1, h3, h4, hlt, iaddr_vXs hx, e1, e2, hw, hw1, hw2, q1, q2]
        refine hK _ _ ?_
        simp -implicitDefEqProofs only [↓v_lenS, SB, POp.val, AOp.val, WOp.val, Lite.bin, intBin, strBin, eqv, eqMany, eq1, AV.asBool, AV.asInt, AV.asNat, AV.asPtr, AV.asStr, resVals, ResV.val, oneOr, wants, skipped, fillAt, putAt, capOf, optNat, bnd, Nat.reduceBEq, reduceIte, Nat.reduceAdd, Nat.reduceLeDiff, Nat.reduceEqDiff, Nat.reduceSub, Nat.reduceMul, Nat.reduceDiv, SOper.again, same, sameBlk, sameCap, Nat.reduceBneDiff, s_draw2, s_pair, k_pair, asunder, SOper.into, Bool.not_false, Bool.not_true, g0, h1, h3, hno]
  · rintro fr H K' ⟨h3, g0, h1, h4⟩ hKe hKr
    rw [List.take_length] at h3
    simp -implicitDefEqProofs only [c24_l0, ↓v_lenS, SB, POp.val, AOp.val, WOp.val, Lite.bin, intBin, strBin, eqv, eqMany, eq1, AV.asBool, AV.asInt, AV.asNat, AV.asPtr, AV.asStr, resVals, ResV.val, oneOr, wants, skipped, fillAt, putAt, capOf, optNat, bnd, Nat.reduceBEq, reduceIte, Nat.reduceAdd, Nat.reduceLeDiff, Nat.reduceEqDiff, Nat.reduceSub, Nat.reduceMul, Nat.reduceDiv, SOper.again, same, sameBlk, sameCap, Nat.reduceBneDiff, s_draw2, s_pair, k_pair, asunder, SOper.into, Bool.not_false, Bool.not_true, CL, XS, g0, h1, h3, h4, Int.lt_irrefl, hKe, Ends, gives_ret]
    exact ⟨_, rfl⟩
  · simp -implicitDefEqProofs only [↓v_lenS, SB, POp.val, AOp.val, WOp.val, Lite.bin, intBin, strBin, eqv, eqMany, eq1, AV.asBool, AV.asInt, AV.asNat, AV.asPtr, AV.asStr, resVals, ResV.val, oneOr, wants, skipped, fillAt, putAt, capOf, optNat, bnd, Nat.reduceBEq, reduceIte, Nat.reduceAdd, Nat.reduceLeDiff, Nat.reduceEqDiff, Nat.reduceSub, Nat.reduceMul, Nat.reduceDiv, SOper.again, same, sameBlk, sameCap, Nat.reduceBneDiff, s_draw2, s_pair, k_pair, asunder, SOper.into, Bool.not_false, Bool.not_true, List.take_zero, X.thicks]
    rfl

end Go.Lite

/-
  The laws NormIs, NormCounts, from the contracts.
-/
namespace Go.Lite
open Go Go.Proofs
set_option maxRecDepth 100000
set_option linter.unusedSimpArgs false
set_option linter.unusedVariables false

theorem shp_atom {k : Int} {t : Str} {m n : Nat} (h : shp k t m n) (ha : atomK k = true) : n = 0 := by
  rcases atomK_cases k with ⟨_, h1⟩ | ⟨h1, _⟩
  · simp only [shp] at h
    omega
  · rw [ha] at h1; cases h1

theorem good_size : ∀ (x : X) (sc : List Str) (m m' : Nat), x.good sc m m' → x.size ≤ 1 + 5 * x.nodes := X.indA fun k t ns l ih sc m m' h => by
  obtain ⟨h1, h2, h3, h4, h5⟩ := h
  have key : ∀ (l : List X), (∀ x ∈ l, ∀ sc m m', x.good sc m m' → x.size ≤ 1 + 5 * x.nodes) → ∀ sc m m', X.goods l sc m m' → X.sizes l ≤ l.length + 5 * X.nodess l := by
    intro l
    induction l with
    | nil => intro _ sc m m' _; simp [X.sizes]
    | cons x l ihl =>
      intro h sc m m' hg
      obtain ⟨m1, g1, g2⟩ := hg
      have a1 := h x (by simp) sc m m1 g1
      have a2 := ihl (fun y hy => h y (by simp [hy])) sc m1 m' g2
      rw [X.sizes, X.nodess, List.length_cons]; omega
  have a := key l ih _ _ _ h5
  rw [X.size, X.nodes]
  cases ha : atomK k with
  | true =>
    have := shp_atom h1 ha
    have hl : l = [] := List.eq_nil_of_length_eq_zero this
    subst hl
    simp [X.sizes]
  | false => simp; omega

/-- a name that norm has given -/
def isPct (s : Str) : Bool := s[0]? == some 37

theorem pct_isPct (n : Nat) : isPct (pct n) = true := rfl
theorem vdot_isPct (n : Nat) : isPct (vdot n) = false := rfl

/-- what is known of the names that are bound in what was normed -/
theorem bnd_facts {e : X} {m' : Nat} (h : e.good [] 0 m') : (e.nrm 0).1.bnd.length = e.bnd.length + e.thick ∧ OnceB (e.nrm 0).1.bnd ∧ (e.nrm 0).1.bnd.countP isPct = e.thick ∧ e.bnd.length = m' := by
  have hp := nrm_bnd e 0
  have hb := (good_bnd e [] 0 m' h).2
  rw [Nat.sub_zero] at hb
  have hpl : ∀ n, (pcts 0 n).length = n := fun n => by simp [pcts]
  have hcv : ∀ n, (vds 0 n).countP isPct = 0 := fun n => List.countP_eq_zero.2 fun s hs => by
    obtain ⟨j, rfl⟩ := mem_vds hs; rw [vdot_isPct]; decide
  have hcp : ∀ n, (pcts 0 n).countP isPct = n := fun n => by
    rw [List.countP_eq_length.2 fun s hs => ?_, hpl]
    obtain ⟨j, rfl⟩ := mem_pcts hs; exact pct_isPct j
  refine ⟨by rw [hp.length_eq, List.length_append, hpl], onceB_of ?_ ?_, ?_, by rw [hb, vds_len]⟩
  · rw [hp.nodup_iff, hb, List.nodup_append]
    refine ⟨vds_nodup _ _, pcts_nodup _ _, fun a ha b hb2 e => ?_⟩
    obtain ⟨i, rfl⟩ := mem_vds ha
    obtain ⟨j, rfl⟩ := mem_pcts hb2
    simp [vdot, pct] at e
  · intro hin
    rw [hp.mem_iff, hb, List.mem_append] at hin
    rcases hin with h1 | h1
    · obtain ⟨j, e⟩ := mem_vds h1; exact vdot_ne j e.symm
    · obtain ⟨j, e⟩ := mem_pcts h1; exact pct_ne j e.symm
  · rw [hp.countP_eq, hb, List.countP_append, hcv, hcp, Nat.zero_add]

set_option maxHeartbeats 2000000 in
theorem law4 (l : List Raw) (hl : l.length ≤ 9223372036854775807) (hf : Raw.fits l) : Ret P3 4 [vRaws l] (.bool true) := by
  refine Ret.of rfl (code4 _ _) rfl rfl (fun H => by simp -implicitDefEqProofs only [↓v_lenS, SB, POp.val, AOp.val, WOp.val, Lite.bin, intBin, strBin, eqv, eqMany, eq1, AV.asBool, AV.asInt, AV.asNat, AV.asPtr, AV.asStr, resVals, ResV.val, oneOr, wants, skipped, fillAt, putAt, capOf, optNat, bnd, Nat.reduceBEq, reduceIte, Nat.reduceAdd, Nat.reduceLeDiff, Nat.reduceEqDiff, Nat.reduceSub, Nat.reduceMul, Nat.reduceDiv, SOper.again, same, sameBlk, sameCap, Nat.reduceBneDiff, s_draw2, s_pair, k_pair, asunder, SOper.into, Bool.not_false, Bool.not_true, shutV_vRaws]) ?_
  rcases few_cases l hl hf with ⟨h11, hc⟩ | h11
  · obtain ⟨e, m', g1, g2, g3, h12⟩ := term12 l hl hf hc
    have md := Made.of g1 g2 g3
    have hxi := nrm_is e 0
    have hfx := nrm_fit e md.fit 0
    have hax := nrm_apt e md.apt 0
    have hrx := nrm_right e (good_right e [] 0 m' g1) 0
    have hes := good_size e [] 0 m' g1
    have hth := thick_le e
    have hxs := nrm_size e 0
    have hfree : (e.nrm 0).1.free = [] := by
      apply List.eq_nil_iff_forall_not_mem.2
      intro s hs
      have := good_free e [] 0 m' g1 s (nrm_free e (good_right e [] 0 m' g1) 0 s hs)
      cases this
    obtain ⟨b1, b2, b3, b4⟩ := bnd_facts g1
    have h20 := free20 (e.nrm 0).1 (by omega) hfx
    rw [hfree] at h20
    have h13 := is13 (e.nrm 0).1 hfx hax
    rw [hxi] at h13
    refine (known10.and (h11.and (h12.and ((norm16 e md.fit md.cnt).and (h13.and ((right19 _ hrx hfx).and (h20.and ((bound22 (e.nrm 0).1 (by omega) hfx).and ((once21 _ (by omega) b2).and ((size23 (e.nrm 0).1 (by omega)).and (size23 e (by omega)))))))))))).mono fun n hn H => ?_
    obtain ⟨e10, e11, e12, e16, e13, e19, e20, e22, e21, e23, e23e⟩ := hn
    have hge : (((e.nrm 0).1.size : Nat) : Int) ≥ ((e.size : Nat) : Int) := by omega
    have hbl : (e.nrm 0).1.bnd.length ≤ 1000 := by omega
    generalize (e.nrm 0).1 = x at *
    have e22 := e22 2 0 [] .nils
    generalize x.bnd = B at *
    generalize x.size = sx at *
    generalize e.size = se at *
    obtain ⟨ke, te, ne, le⟩ := e
    obtain ⟨kx, tx, nx, lx⟩ := x
    simp only [X.v_mk] at e12 e16 e13 e19 e20 e22 e21 e23 e23e
    have h0 : (((0 : Nat) : Int) == 0) = true := rfl
    simp -implicitDefEqProofs only [c4, ↓v_lenS, SB, POp.val, AOp.val, WOp.val, Lite.bin, intBin, strBin, eqv, eqMany, eq1, AV.asBool, AV.asInt, AV.asNat, AV.asPtr, AV.asStr, resVals, ResV.val, oneOr, wants, skipped, fillAt, putAt, capOf, optNat, bnd, Nat.reduceBEq, reduceIte, Nat.reduceAdd, Nat.reduceLeDiff, Nat.reduceEqDiff, Nat.reduceSub, Nat.reduceMul, Nat.reduceDiv, SOper.again, same, sameBlk, sameCap, Nat.reduceBneDiff, s_draw2, s_pair, k_pair, asunder, SOper.into, Bool.not_false, Bool.not_true, CL, XS, shutV_vRaws, e10, e11, e12, e16, e13, e19, e20, vStrs_nil, h0]
    have low4 : HLow ((((H.bare.push (.row [.int .i64 0, .str [], .nils, .nils] 0 false (some 28))).put 0 (.row [.int .i64 ke, .str te, vStrs ne, vXs le] 0 false (some 28))).push (.row [.int .i64 0, .str [], .nils, .nils] 0 false (some 28))).put 1 (.row [.int .i64 kx, .str tx, vStrs nx, vXs lx] 0 false (some 28))) :=
      (((HLow.bare.push).put (by simp [h_n, h_nbare])).push).put (by simp [h_n, h_nput, h_nbare])
    refine gives_call (e22 _ (by simp [h_n, h_nput, h_nbare]) low4 (by omega) Acc.nil) ?_
    rintro w H5 ⟨acc, gw, low5⟩
    have g0 := gw.row (j := 0) (cs := [.int .i64 ke, .str te, vStrs ne, vXs le]) (fz := false) (ty := some 28) (by simp [h_n, h_nput, h_nbare, h_get, h_gput])
    have g1 := gw.row (j := 1) (cs := [.int .i64 kx, .str tx, vStrs nx, vXs lx]) (fz := false) (ty := some 28) (by simp [h_n, h_nput, h_nbare, h_get, h_gput])
    rw [Nat.zero_add, List.nil_append] at acc
    obtain ⟨H6, hsh, kp6⟩ := acc.shutV (by decide) (Still.flat str1_still _)
    rw [L_vStrs] at hsh
    have k0 := acc.row (by decide) kp6 g0
    have k1 := acc.row (by decide) kp6 g1
    simp -implicitDefEqProofs only [↓v_lenS, SB, POp.val, AOp.val, WOp.val, Lite.bin, intBin, strBin, eqv, eqMany, eq1, AV.asBool, AV.asInt, AV.asNat, AV.asPtr, AV.asStr, resVals, ResV.val, oneOr, wants, skipped, fillAt, putAt, capOf, optNat, bnd, Nat.reduceBEq, reduceIte, Nat.reduceAdd, Nat.reduceLeDiff, Nat.reduceEqDiff, Nat.reduceSub, Nat.reduceMul, Nat.reduceDiv, SOper.again, same, sameBlk, sameCap, Nat.reduceBneDiff, s_draw2, s_pair, k_pair, asunder, SOper.into, Bool.not_false, Bool.not_true, CL, XS, hsh, e21, k0, k1, e23, e23e, hge, Ends, gives_ret]
    exact ⟨_, rfl⟩
  · refine (known10.and h11).mono fun n hn H => ?_
    obtain ⟨e10, e11⟩ := hn
    simp -implicitDefEqProofs only [c4, ↓v_lenS, SB, POp.val, AOp.val, WOp.val, Lite.bin, intBin, strBin, eqv, eqMany, eq1, AV.asBool, AV.asInt, AV.asNat, AV.asPtr, AV.asStr, resVals, ResV.val, oneOr, wants, skipped, fillAt, putAt, capOf, optNat, bnd, Nat.reduceBEq, reduceIte, Nat.reduceAdd, Nat.reduceLeDiff, Nat.reduceEqDiff, Nat.reduceSub, Nat.reduceMul, Nat.reduceDiv, SOper.again, same, sameBlk, sameCap, Nat.reduceBneDiff, s_draw2, s_pair, k_pair, asunder, SOper.into, Bool.not_false, Bool.not_true, CL, XS, shutV_vRaws, e10, e11, Ends, gives_ret]
    exact ⟨_, rfl⟩

set_option maxHeartbeats 2000000 in
theorem law6 (l : List Raw) (hl : l.length ≤ 9223372036854775807) (hf : Raw.fits l) : Ret P3 6 [vRaws l] (.bool true) := by
  refine Ret.of rfl (code6 _ _) rfl rfl (fun H => by simp -implicitDefEqProofs only [↓v_lenS, SB, POp.val, AOp.val, WOp.val, Lite.bin, intBin, strBin, eqv, eqMany, eq1, AV.asBool, AV.asInt, AV.asNat, AV.asPtr, AV.asStr, resVals, ResV.val, oneOr, wants, skipped, fillAt, putAt, capOf, optNat, bnd, Nat.reduceBEq, reduceIte, Nat.reduceAdd, Nat.reduceLeDiff, Nat.reduceEqDiff, Nat.reduceSub, Nat.reduceMul, Nat.reduceDiv, SOper.again, same, sameBlk, sameCap, Nat.reduceBneDiff, s_draw2, s_pair, k_pair, asunder, SOper.into, Bool.not_false, Bool.not_true, shutV_vRaws]) ?_
  rcases few_cases l hl hf with ⟨h11, hc⟩ | h11
  · obtain ⟨e, m', g1, g2, g3, h12⟩ := term12 l hl hf hc
    have md := Made.of g1 g2 g3
    have hfx := nrm_fit e md.fit 0
    have hes := good_size e [] 0 m' g1
    have hth := thick_le e
    have hxs := nrm_size e 0
    obtain ⟨b1, b2, b3, b4⟩ := bnd_facts g1
    refine (known10.and (h11.and (h12.and ((norm16 e md.fit md.cnt).and ((bound22 e (by omega) md.fit).and ((bound22 (e.nrm 0).1 (by omega) hfx).and ((thick24 e (by omega) md.fit).and ((size23 (e.nrm 0).1 (by omega)).and ((size23 e (by omega)).and (Ev.ge 1000)))))))))).mono fun n hn H => ?_
    obtain ⟨e10, e11, e12, e16, e22e, e22, e24, e23, e23e, hge⟩ := hn
    have hbl : (e.nrm 0).1.bnd.length ≤ 900 := by omega
    have hel : e.bnd.length ≤ 900 := by omega
    have hts : e.thick ≤ 900 := by omega
    have hss : e.size ≤ 900 := by omega
    have e22 : BoundOk (e.nrm 0).1 n := e22
    have e22e := e22e 2 0 [] .nils
    unfold BoundOk at e22
    generalize (e.nrm 0).1 = x at *
    generalize x.bnd = B at *
    generalize x.size = sx at *
    generalize e.size = se at *
    generalize e.bnd = A at *
    generalize e.thick = T at *
    obtain ⟨ke, te, ne, le⟩ := e
    obtain ⟨kx, tx, nx, lx⟩ := x
    simp only [X.v_mk] at e12 e16 e22e e24 e23 e23e
    have e22 : ∀ (N m : Nat) (cells : List AV) (v : AV) (H : Heap), N ≤ H.n → HLow H → m + B.length ≤ 1048576 → Acc N H 9 1 m cells v →
      Gives (callN P3 n 22 [.agg [.int .i64 kx, .str tx, vStrs nx, vXs lx], v] H) fun w H' => Acc N H' 9 1 (m + B.length) (cells ++ B.flatMap str1) w ∧ Grew N H H' ∧ HLow H' := by
      intro N m cells v H h1 h2 h3 h4
      have := e22 N m cells v H h1 h2 h3 h4
      rw [X.v_mk] at this
      exact this
    simp -implicitDefEqProofs only [c6, ↓v_lenS, SB, POp.val, AOp.val, WOp.val, Lite.bin, intBin, strBin, eqv, eqMany, eq1, AV.asBool, AV.asInt, AV.asNat, AV.asPtr, AV.asStr, resVals, ResV.val, oneOr, wants, skipped, fillAt, putAt, capOf, optNat, bnd, Nat.reduceBEq, reduceIte, Nat.reduceAdd, Nat.reduceLeDiff, Nat.reduceEqDiff, Nat.reduceSub, Nat.reduceMul, Nat.reduceDiv, SOper.again, same, sameBlk, sameCap, Nat.reduceBneDiff, s_draw2, s_pair, k_pair, asunder, SOper.into, Bool.not_false, Bool.not_true, CL, XS, shutV_vRaws, e10, e11, e12, e16]
    have low4 : HLow ((((H.bare.push (.row [.int .i64 0, .str [], .nils, .nils] 0 false (some 28))).put 0 (.row [.int .i64 ke, .str te, vStrs ne, vXs le] 0 false (some 28))).push (.row [.int .i64 0, .str [], .nils, .nils] 0 false (some 28))).put 1 (.row [.int .i64 kx, .str tx, vStrs nx, vXs lx] 0 false (some 28))) :=
      (((HLow.bare.push).put (by simp [h_n, h_nbare])).push).put (by simp [h_n, h_nput, h_nbare])
    refine gives_call (e22e _ (by simp [h_n, h_nput, h_nbare]) low4 (by omega) Acc.nil) ?_
    rintro w H5 ⟨acc, gw, low5⟩
    have g0 := gw.row (j := 0) (cs := [.int .i64 ke, .str te, vStrs ne, vXs le]) (fz := false) (ty := some 28) (by simp [h_n, h_nput, h_nbare, h_get, h_gput])
    have g1' := gw.row (j := 1) (cs := [.int .i64 kx, .str tx, vStrs nx, vXs lx]) (fz := false) (ty := some 28) (by simp [h_n, h_nput, h_nbare, h_get, h_gput])
    rw [Nat.zero_add, List.nil_append] at acc
    simp -implicitDefEqProofs only [↓v_lenS, SB, POp.val, AOp.val, WOp.val, Lite.bin, intBin, strBin, eqv, eqMany, eq1, AV.asBool, AV.asInt, AV.asNat, AV.asPtr, AV.asStr, resVals, ResV.val, oneOr, wants, skipped, fillAt, putAt, capOf, optNat, bnd, Nat.reduceBEq, reduceIte, Nat.reduceAdd, Nat.reduceLeDiff, Nat.reduceEqDiff, Nat.reduceSub, Nat.reduceMul, Nat.reduceDiv, SOper.again, same, sameBlk, sameCap, Nat.reduceBneDiff, s_draw2, s_pair, k_pair, asunder, SOper.into, Bool.not_false, Bool.not_true, CL, XS, g0, g1']
    refine gives_call (e22 H5.n 0 [] .nils H5 (Nat.le_refl _) low5 (by omega) Acc.nil) ?_
    rintro w2 H6 ⟨acc2, gw2, low6⟩
    rw [Nat.zero_add, List.nil_append] at acc2
    have k0 := gw2.row g0
    have k1 := gw2.row g1'
    have la := acc.len
    have lb := acc2.len
    have q1 : IntKind.i64.wrap ((A.length : Int) + (T : Int)) = ((A.length + T : Nat) : Int) := wrap_nat (by omega)
    have q2 : (((B.length : Nat) : Int) != ((A.length + T : Nat) : Int)) = false := by rw [← b1]; simp
    have q3 : IntKind.i64.wrap (2 * (T : Int)) = ((2 * T : Nat) : Int) := by rw [wrap64 (by omega) (by omega)]; omega
    have q4 : IntKind.i64.wrap (((se : Nat) : Int) + ((2 * T : Nat) : Int)) = ((se + 2 * T : Nat) : Int) := wrap_nat (by omega)
    have q5 : (((sx : Nat) : Int) != ((se + 2 * T : Nat) : Int)) = false := by rw [← hxs]; simp
    simp -implicitDefEqProofs only [↓v_lenS, SB, POp.val, AOp.val, WOp.val, Lite.bin, intBin, strBin, eqv, eqMany, eq1, AV.asBool, AV.asInt, AV.asNat, AV.asPtr, AV.asStr, resVals, ResV.val, oneOr, wants, skipped, fillAt, putAt, capOf, optNat, bnd, Nat.reduceBEq, reduceIte, Nat.reduceAdd, Nat.reduceLeDiff, Nat.reduceEqDiff, Nat.reduceSub, Nat.reduceMul, Nat.reduceDiv, SOper.again, same, sameBlk, sameCap, Nat.reduceBneDiff, s_draw2, s_pair, k_pair, asunder, SOper.into, Bool.not_false, Bool.not_true, CL, XS, k0, k1, e24, e23, e23e, la, lb, q1, q2, q3, q4, q5]
    refine loop_rounds B.length (fun i fr H => fr 6 = w2 ∧ fr 7 = .int .i64 T ∧ fr 8 = .int .i64 ((B.take i).countP isPct) ∧ fr 9 = .int .i64 i ∧ H = H6) ?_ ?_ n 0 _ _ (by omega) (by omega) ?_
    · rintro i fr H K' hi ⟨r6, r7, r8, r9, rfl⟩ hKe hKr hK
      obtain ⟨s, hs⟩ : ∃ s, B[i]? = some s := ⟨B[i], List.getElem?_eq_getElem hi⟩
      obtain ⟨kb, rfl, hkb, gb⟩ := acc2.slice (by omega)
      have hlt : (i : Int) < (B.length : Int) := by omega
      have hw := wrap_succ hi (by omega)
      have hcell : (B.flatMap str1)[i]? = some (.str s) := by
        have := flat_at str1_len B i
        rw [hs] at this
        have h2 : (((B.flatMap str1).drop (i * 1)).take 1)[0]? = some (.str s) := by rw [this]; rfl
        rw [drop_take1] at h2
        exact h2
      have hct : (B.take (i + 1)).countP isPct = (B.take i).countP isPct + (if isPct s = true then 1 else 0) := by
        rw [List.take_add_one, hs, Option.toList_some, List.countP_append]
        simp [List.countP_cons]
      have hcl : (B.take i).countP isPct ≤ i := Nat.le_trans List.countP_le_length (by rw [List.length_take]; omega)
      have hw8 : IntKind.i64.wrap ((((B.take i).countP isPct : Nat) : Int) + 1) = (((B.take i).countP isPct + 1 : Nat) : Int) := by rw [wrap64 (by omega) (by omega)]; rfl
      cases s with
      | nil =>
        have hno : isPct [] = false := rfl
        rw [hno, if_neg (by decide), Nat.add_zero] at hct
        have h0 : ¬ ((0 : Nat) : Int) > 0 := by decide
        simp -implicitDefEqProofs only [c6_l0, ↓v_lenS, SB, POp.val, AOp.val, WOp.val, Lite.bin, intBin, strBin, eqv, eqMany, eq1, AV.asBool, AV.asInt, AV.asNat, AV.asPtr, AV.asStr, resVals, ResV.val, oneOr, wants, skipped, fillAt, putAt, capOf, optNat, bnd, Nat.reduceBEq, reduceIte, Nat.reduceAdd, Nat.reduceLeDiff, Nat.reduceEqDiff, Nat.reduceSub, Nat.reduceMul, Nat.reduceDiv, SOper.again, same, sameBlk, sameCap, Nat.reduceBneDiff, s_draw2, s_pair, k_pair, asunder, SOper.into, Bool.not_false, Bool.not_true, CL, XS, r6, r7, r8, r9, hlt, hi, gb, Nat.mul_one, hcell, h0, hw]
        refine hK _ _ ?_
        simp -implicitDefEqProofs only [↓v_lenS, SB, POp.val, AOp.val, WOp.val, Lite.bin, intBin, strBin, eqv, eqMany, eq1, AV.asBool, AV.asInt, AV.asNat, AV.asPtr, AV.asStr, resVals, ResV.val, oneOr, wants, skipped, fillAt, putAt, capOf, optNat, bnd, Nat.reduceBEq, reduceIte, Nat.reduceAdd, Nat.reduceLeDiff, Nat.reduceEqDiff, Nat.reduceSub, Nat.reduceMul, Nat.reduceDiv, SOper.again, same, sameBlk, sameCap, Nat.reduceBneDiff, s_draw2, s_pair, k_pair, asunder, SOper.into, Bool.not_false, Bool.not_true, r6, r7, r8, hct]
      | cons c cs =>
        have hpos : (((c :: cs).length : Nat) : Int) > 0 := by simp only [List.length_cons]; omega
        have h00 : (c :: cs)[0]? = some c := rfl
        by_cases hc37 : c = 37
        · have hyes : isPct (c :: cs) = true := by rw [hc37]; rfl
          have hb37 : ((c : Int) == 37) = true := by rw [hc37]; rfl
          rw [hyes, if_pos rfl] at hct
          generalize c :: cs = S at *
          simp -implicitDefEqProofs only [c6_l0, ↓v_lenS, SB, POp.val, AOp.val, WOp.val, Lite.bin, intBin, strBin, eqv, eqMany, eq1, AV.asBool, AV.asInt, AV.asNat, AV.asPtr, AV.asStr, resVals, ResV.val, oneOr, wants, skipped, fillAt, putAt, capOf, optNat, bnd, Nat.reduceBEq, reduceIte, Nat.reduceAdd, Nat.reduceLeDiff, Nat.reduceEqDiff, Nat.reduceSub, Nat.reduceMul, Nat.reduceDiv, SOper.again, same, sameBlk, sameCap, Nat.reduceBneDiff, s_draw2, s_pair, k_pair, asunder, SOper.into, Bool.not_false, Bool.not_true, CL, XS, r6, r7, r8, r9, hlt, hi, gb, Nat.mul_one, hcell, hpos, h00, hb37, hw, hw8, Int.toNat_zero, Int.le_refl]
          refine hK _ _ ?_
          simp -implicitDefEqProofs only [↓v_lenS, SB, POp.val, AOp.val, WOp.val, Lite.bin, intBin, strBin, eqv, eqMany, eq1, AV.asBool, AV.asInt, AV.asNat, AV.asPtr, AV.asStr, resVals, ResV.val, oneOr, wants, skipped, fillAt, putAt, capOf, optNat, bnd, Nat.reduceBEq, reduceIte, Nat.reduceAdd, Nat.reduceLeDiff, Nat.reduceEqDiff, Nat.reduceSub, Nat.reduceMul, Nat.reduceDiv, SOper.again, same, sameBlk, sameCap, Nat.reduceBneDiff, s_draw2, s_pair, k_pair, asunder, SOper.into, Bool.not_false, Bool.not_true, r6, r7, r8, hct]
        · have hno : isPct (c :: cs) = false := by simp [isPct, hc37]
          have hb37 : ((c : Int) == 37) = false := by rw [beq_eq_false_iff_ne]; omega
          rw [hno, if_neg (by decide), Nat.add_zero] at hct
          generalize c :: cs = S at *
          simp -implicitDefEqProofs only [c6_l0, ↓v_lenS, SB, POp.val, AOp.val, WOp.val, Lite.bin, intBin, strBin, eqv, eqMany, eq1, AV.asBool, AV.asInt, AV.asNat, AV.asPtr, AV.asStr, resVals, ResV.val, oneOr, wants, skipped, fillAt, putAt, capOf, optNat, bnd, Nat.reduceBEq, reduceIte, Nat.reduceAdd, Nat.reduceLeDiff, Nat.reduceEqDiff, Nat.reduceSub, Nat.reduceMul, Nat.reduceDiv, SOper.again, same, sameBlk, sameCap, Nat.reduceBneDiff, s_draw2, s_pair, k_pair, asunder, SOper.into, Bool.not_false, Bool.not_true, CL, XS, r6, r7, r8, r9, hlt, hi, gb, Nat.mul_one, hcell, hpos, h00, hb37, hw, Int.toNat_zero, Int.le_refl]
          refine hK _ _ ?_
          simp -implicitDefEqProofs only [↓v_lenS, SB, POp.val, AOp.val, WOp.val, Lite.bin, intBin, strBin, eqv, eqMany, eq1, AV.asBool, AV.asInt, AV.asNat, AV.asPtr, AV.asStr, resVals, ResV.val, oneOr, wants, skipped, fillAt, putAt, capOf, optNat, bnd, Nat.reduceBEq, reduceIte, Nat.reduceAdd, Nat.reduceLeDiff, Nat.reduceEqDiff, Nat.reduceSub, Nat.reduceMul, Nat.reduceDiv, SOper.again, same, sameBlk, sameCap, Nat.reduceBneDiff, s_draw2, s_pair, k_pair, asunder, SOper.into, Bool.not_false, Bool.not_true, r6, r7, r8, hct]
    · rintro fr H K' ⟨r6, r7, r8, r9, rfl⟩ hKe hKr
      rw [List.take_length, b3] at r8
      have hbb : ((T : Int) == (T : Int)) = true := by simp
      simp -implicitDefEqProofs only [c6_l0, ↓v_lenS, SB, POp.val, AOp.val, WOp.val, Lite.bin, intBin, strBin, eqv, eqMany, eq1, AV.asBool, AV.asInt, AV.asNat, AV.asPtr, AV.asStr, resVals, ResV.val, oneOr, wants, skipped, fillAt, putAt, capOf, optNat, bnd, Nat.reduceBEq, reduceIte, Nat.reduceAdd, Nat.reduceLeDiff, Nat.reduceEqDiff, Nat.reduceSub, Nat.reduceMul, Nat.reduceDiv, SOper.again, same, sameBlk, sameCap, Nat.reduceBneDiff, s_draw2, s_pair, k_pair, asunder, SOper.into, Bool.not_false, Bool.not_true, CL, XS, r6, r7, r8, r9, lb, Int.lt_irrefl, hKe, hbb, Ends, gives_ret]
      exact ⟨_, rfl⟩
    · simp -implicitDefEqProofs only [↓v_lenS, SB, POp.val, AOp.val, WOp.val, Lite.bin, intBin, strBin, eqv, eqMany, eq1, AV.asBool, AV.asInt, AV.asNat, AV.asPtr, AV.asStr, resVals, ResV.val, oneOr, wants, skipped, fillAt, putAt, capOf, optNat, bnd, Nat.reduceBEq, reduceIte, Nat.reduceAdd, Nat.reduceLeDiff, Nat.reduceEqDiff, Nat.reduceSub, Nat.reduceMul, Nat.reduceDiv, SOper.again, same, sameBlk, sameCap, Nat.reduceBneDiff, s_draw2, s_pair, k_pair, asunder, SOper.into, Bool.not_false, Bool.not_true, List.take_zero, List.countP_nil]
      rfl
  · refine (known10.and h11).mono fun n hn H => ?_
    obtain ⟨e10, e11⟩ := hn
    simp -implicitDefEqProofs only [c6, ↓v_lenS, SB, POp.val, AOp.val, WOp.val, Lite.bin, intBin, strBin, eqv, eqMany, eq1, AV.asBool, AV.asInt, AV.asNat, AV.asPtr, AV.asStr, resVals, ResV.val, oneOr, wants, skipped, fillAt, putAt, capOf, optNat, bnd, Nat.reduceBEq, reduceIte, Nat.reduceAdd, Nat.reduceLeDiff, Nat.reduceEqDiff, Nat.reduceSub, Nat.reduceMul, Nat.reduceDiv, SOper.again, same, sameBlk, sameCap, Nat.reduceBneDiff, s_draw2, s_pair, k_pair, asunder, SOper.into, Bool.not_false, Bool.not_true, CL, XS, shutV_vRaws, e10, e11, Ends, gives_ret]
    exact ⟨_, rfl⟩

end Go.Lite
