/- The row of the law NormStays, and its card: what its call does, from the interpreter's run; what it lists, tied to the program's text. -/
import Derived.Test.YtlncgbcclmhicaaDoorQnB
import Derived.Test.YtlncgbcclmhicaaDoorTie
import Derived.Test.YtlncgbcclmhicaaDoorCards
import Derived.WalkKit
import Derived.ProofKit
import Derived.OpenShut
import Derived.ShutString
import Derived.ChangeOld
import Derived.Below
import Derived.SizedLaws
import Derived.HandedShaped
import Derived.Carry
import Derived.SevenTiedAt

/-
  The laws NormStays, NormAll, NormInside, from the contracts.
-/
namespace Go.Lite
open Go Go.Proofs
set_option maxRecDepth 100000
set_option linter.unusedSimpArgs false
set_option linter.unusedVariables false

/-- what the laws ask of a term that was made -/
structure Made (e : X) : Prop where
  fit : e.fit
  apt : e.apt
  few : e.thick < 100
  cnt : (e.nrm 0).2 < 100

theorem Made.of {e : X} {sc : List Str} {m' : Nat} (h1 : e.good sc 0 m') (h2 : e.nodes ≤ 41) (h3 : m' < 100) : Made e := by
  have := thick_le e
  exact ⟨good_fit e sc 0 m' h1 (by omega), good_apt e sc 0 m' h1, by omega, by rw [nrm_count]; omega⟩

theorem few_cases (l : List Raw) (hl : l.length ≤ 9223372036854775807) (hf : Raw.fits l) : (Ret P3 11 [vRaws l] (.bool true) ∧ Raw.cnts l ≤ 40) ∨ Ret P3 11 [vRaws l] (.bool false) := by
  have h := few11 l hl hf
  by_cases hfew : sizeR 13 l ≤ 40
  · rw [decide_eq_true hfew] at h
    exact .inl ⟨h, by rw [← few_cnt 13 l hfew]; exact hfew⟩
  · rw [decide_eq_false hfew] at h
    exact .inr h

set_option maxHeartbeats 1000000 in
theorem law5 (l : List Raw) (hl : l.length ≤ 9223372036854775807) (hf : Raw.fits l) : Ret P3 5 [vRaws l] (.bool true) := by
  refine Ret.of rfl (code5 _ _) rfl rfl (fun H => by simp -implicitDefEqProofs only [↓v_lenS, SB, POp.val, AOp.val, WOp.val, Lite.bin, intBin, strBin, eqv, eqMany, eq1, AV.asBool, AV.asInt, AV.asNat, AV.asPtr, AV.asStr, resVals, ResV.val, oneOr, wants, skipped, fillAt, putAt, capOf, optNat, bnd, Nat.reduceBEq, reduceIte, Nat.reduceAdd, Nat.reduceLeDiff, Nat.reduceEqDiff, Nat.reduceSub, Nat.reduceMul, Nat.reduceDiv, SOper.again, same, sameBlk, sameCap, Nat.reduceBneDiff, s_draw2, s_pair, k_pair, asunder, SOper.into, Bool.not_false, Bool.not_true, shutV_vRaws]) ?_
  rcases few_cases l hl hf with ⟨h11, hc⟩ | h11
  · obtain ⟨e, m', g1, g2, g3, h12⟩ := term12 l hl hf hc
    have md := Made.of g1 g2 g3
    have hx := nrm_is e 0
    have hfx := nrm_fit e md.fit 0
    have h16x := norm16 (e.nrm 0).1 hfx (by rw [nrm_of_is _ hx]; exact Nat.zero_lt_succ 99)
    rw [nrm_of_is _ hx] at h16x
    have hs2 := same15 (e.nrm 0).1 hfx e
    have key : (e.nrm 0).1.same e = e.is := by
      cases hi : e.is with
      | true => rw [nrm_of_is e hi]; exact same_refl' e
      | false =>
        cases hs : (e.nrm 0).1.same e with
        | false => rfl
        | true =>
          rw [same_iff] at hs
          rw [hs] at hx
          rw [hx] at hi; cases hi
    rw [key] at hs2
    have hs1 := same15 (e.nrm 0).1 hfx (e.nrm 0).1
    rw [same_refl'] at hs1
    refine (known10.and (h11.and (h12.and ((norm16 e md.fit md.cnt).and (h16x.and (hs1.and (hs2.and (is13 e md.fit md.apt)))))))).mono fun n hn H => ?_
    obtain ⟨e10, e11, e12, e16, e16x, es1, es2, e13⟩ := hn
    generalize (e.nrm 0).1 = x at *
    obtain ⟨ke, te, ne, le⟩ := e
    obtain ⟨kx, tx, nx, lx⟩ := x
    simp only [X.v_mk] at e12 e16 e16x es1 es2 e13
    generalize (X.mk ke te ne le).is = b at *
    have hb : (b == b) = true := by simp
    simp -implicitDefEqProofs only [c5, ↓v_lenS, SB, POp.val, AOp.val, WOp.val, Lite.bin, intBin, strBin, eqv, eqMany, eq1, AV.asBool, AV.asInt, AV.asNat, AV.asPtr, AV.asStr, resVals, ResV.val, oneOr, wants, skipped, fillAt, putAt, capOf, optNat, bnd, Nat.reduceBEq, reduceIte, Nat.reduceAdd, Nat.reduceLeDiff, Nat.reduceEqDiff, Nat.reduceSub, Nat.reduceMul, Nat.reduceDiv, SOper.again, same, sameBlk, sameCap, Nat.reduceBneDiff, s_draw2, s_pair, k_pair, asunder, SOper.into, Bool.not_false, Bool.not_true, CL, XS, shutV_vRaws, e10, e11, e12, e16, e16x, es1, es2, e13, hb, Ends, gives_ret]
    exact ⟨_, rfl⟩
  · refine (known10.and h11).mono fun n hn H => ?_
    obtain ⟨e10, e11⟩ := hn
    simp -implicitDefEqProofs only [c5, ↓v_lenS, SB, POp.val, AOp.val, WOp.val, Lite.bin, intBin, strBin, eqv, eqMany, eq1, AV.asBool, AV.asInt, AV.asNat, AV.asPtr, AV.asStr, resVals, ResV.val, oneOr, wants, skipped, fillAt, putAt, capOf, optNat, bnd, Nat.reduceBEq, reduceIte, Nat.reduceAdd, Nat.reduceLeDiff, Nat.reduceEqDiff, Nat.reduceSub, Nat.reduceMul, Nat.reduceDiv, SOper.again, same, sameBlk, sameCap, Nat.reduceBneDiff, s_draw2, s_pair, k_pair, asunder, SOper.into, Bool.not_false, Bool.not_true, CL, XS, shutV_vRaws, e10, e11, Ends, gives_ret]
    exact ⟨_, rfl⟩

mutual
/-- of a term and all its parts -/
def X.every (p : X → Prop) : X → Prop
  | .mk k t ns l => p (.mk k t ns l) ∧ X.everys p l
def X.everys (p : X → Prop) : List X → Prop
  | [] => True
  | x :: l => x.every p ∧ X.everys p l
end
theorem everys_iff {p : X → Prop} (l : List X) : X.everys p l ↔ ∀ x ∈ l, x.every p := by
  induction l with
  | nil => simp [X.everys]
  | cons x l ih => rw [X.everys, ih]; simp

theorem every_ev {p : X → Nat → Prop} {q : X → Prop} (hp : ∀ x, q x → Ev (p x)) (hq : ∀ k t ns l, q (.mk k t ns l) → ∀ x ∈ l, q x) : ∀ x, q x → Ev fun n => x.every (p · n) := X.indA fun k t ns l ih h => by
  have := Ev.all l fun x hx => ih x hx (hq k t ns l h x hx)
  refine ((hp _ h).and this).mono fun n hn => ?_
  rw [X.every, everys_iff]
  exact hn

theorem thicks_mem {l : List X} {x : X} (h : x ∈ l) (m i : Nat) : x.thick ≤ X.thicks l m i := by
  induction l generalizing i with
  | nil => cases h
  | cons y l ih =>
    rw [X.thicks]
    rcases List.mem_cons.1 h with rfl | h
    · omega
    · have := ih h (i + 1); omega

theorem Made.part {k : Int} {t : Str} {ns : List Str} {l : List X} (h : Made (.mk k t ns l)) : ∀ x ∈ l, Made x := fun x hx => by
  obtain ⟨f1, f2, f3⟩ := h.fit
  have f3 := (X.fits_iff l).1 f3
  obtain ⟨a1, a2⟩ := h.apt
  have a2 := (X.apts_iff l).1 a2
  have h3 := h.few
  rw [X.thick] at h3
  have := thicks_mem hx ((must k t).getD l.length) 0
  exact ⟨f3 x hx, a2 x hx, by omega, by rw [nrm_count]; omega⟩

set_option maxHeartbeats 1000000 in
theorem law3 (l : List Raw) (q : Int) (hl : l.length ≤ 9223372036854775807) (hf : Raw.fits l) : Ret P3 3 [vRaws l, .int .i64 q] (.bool true) := by
  refine Ret.of rfl (code3 _ _) rfl rfl (fun H => by simp -implicitDefEqProofs only [↓v_lenS, SB, POp.val, AOp.val, WOp.val, Lite.bin, intBin, strBin, eqv, eqMany, eq1, AV.asBool, AV.asInt, AV.asNat, AV.asPtr, AV.asStr, resVals, ResV.val, oneOr, wants, skipped, fillAt, putAt, capOf, optNat, bnd, Nat.reduceBEq, reduceIte, Nat.reduceAdd, Nat.reduceLeDiff, Nat.reduceEqDiff, Nat.reduceSub, Nat.reduceMul, Nat.reduceDiv, SOper.again, same, sameBlk, sameCap, Nat.reduceBneDiff, s_draw2, s_pair, k_pair, asunder, SOper.into, Bool.not_false, Bool.not_true, shutV_vRaws]) ?_
  rcases few_cases l hl hf with ⟨h11, hc⟩ | h11
  · obtain ⟨e, m', g1, g2, g3, h12⟩ := term12 l hl hf hc
    have md := Made.of g1 g2 g3
    have hev : Ev fun n => e.every fun y => Made y ∧ (∀ H, callN P3 n 13 [y.v] H = some (.ret (.bool y.is), H)) ∧ (∀ H, callN P3 n 14 [y.v] H = some (.ret (.bool y.is), H)) ∧ (∀ H, callN P3 n 16 [y.v] H = some (.ret (y.nrm 0).1.v, H)) ∧ (∀ H, callN P3 n 17 [y.v] H = some (.ret (y.nrm 0).1.v, H)) ∧
        (∀ H, callN P3 n 15 [(y.nrm 0).1.v, (y.nrm 0).1.v] H = some (.ret (.bool true), H)) ∧ (∀ k t ns m, y = .mk k t ns m → ∀ i ∈ List.range 5, m ≠ [] → ∀ H, callN P3 n 18 [.int .i64 (IntKind.i64.wrap (q + (i : Int))), .int .i64 m.length] H = some (.ret (.int .i64 (within (IntKind.i64.wrap (q + (i : Int))) m.length)), H)) := by
      refine every_ev (q := Made) (fun y hy => ?_) (fun k t ns m h x hx => h.part x hx) e md
      have hs := same15 (y.nrm 0).1 (nrm_fit y hy.fit 0) (y.nrm 0).1
      rw [same_refl'] at hs
      obtain ⟨k, t, ns, m⟩ := y
      have h18 : Ev fun n => ∀ i ∈ List.range 5, m ≠ [] → ∀ H, callN P3 n 18 [.int .i64 (IntKind.i64.wrap (q + (i : Int))), .int .i64 m.length] H = some (.ret (.int .i64 (within (IntKind.i64.wrap (q + (i : Int))) m.length)), H) := by
        refine Ev.all _ fun i _ => ?_
        by_cases hm : m = []
        · exact Ev.of fun n h => absurd hm h
        · have hm0 : (m.length : Int) ≠ 0 := by have := List.length_pos_iff.2 hm; omega
          exact (run18 (IntKind.i64.wrap (q + (i : Int))) m.length hm0).mono fun n h _ => h
      refine ((is13 _ hy.fit hy.apt).and ((is14 _ hy.fit).and ((norm16 _ hy.fit hy.cnt).and ((norm17 _ hy.fit hy.cnt).and (hs.and h18))))).mono fun n hn => ?_
      obtain ⟨n1, n2, n3, n4, n5, n6⟩ := hn
      refine ⟨hy, n1, n2, n3, n4, n5, fun k' t' ns' m' he i hi hm H => ?_⟩
      simp only [X.mk.injEq] at he
      obtain ⟨rfl, rfl, rfl, rfl⟩ := he
      exact n6 i hi hm H
    refine (known10.and (h11.and (h12.and (hev.and (Ev.ge 10))))).mono fun n hn H => ?_
    obtain ⟨e10, e11, e12, hall, hge⟩ := hn
    have hcell : e.v = .agg e.cells := rfl
    have he4 : e.cells.length = 4 := e.cells_len
    obtain ⟨ke, te, ne, le⟩ := e
    simp only [X.v_mk] at e12
    simp -implicitDefEqProofs only [c3, ↓v_lenS, SB, POp.val, AOp.val, WOp.val, Lite.bin, intBin, strBin, eqv, eqMany, eq1, AV.asBool, AV.asInt, AV.asNat, AV.asPtr, AV.asStr, resVals, ResV.val, oneOr, wants, skipped, fillAt, putAt, capOf, optNat, bnd, Nat.reduceBEq, reduceIte, Nat.reduceAdd, Nat.reduceLeDiff, Nat.reduceEqDiff, Nat.reduceSub, Nat.reduceMul, Nat.reduceDiv, SOper.again, same, sameBlk, sameCap, Nat.reduceBneDiff, s_draw2, s_pair, k_pair, asunder, SOper.into, Bool.not_false, Bool.not_true, CL, XS, shutV_vRaws, e10, e11, e12]
    refine loop_rounds 5 (fun i fr H => ∃ y : X, y.every (fun y => Made y ∧ (∀ H, callN P3 n 13 [y.v] H = some (.ret (.bool y.is), H)) ∧ (∀ H, callN P3 n 14 [y.v] H = some (.ret (.bool y.is), H)) ∧ (∀ H, callN P3 n 16 [y.v] H = some (.ret (y.nrm 0).1.v, H)) ∧ (∀ H, callN P3 n 17 [y.v] H = some (.ret (y.nrm 0).1.v, H)) ∧
        (∀ H, callN P3 n 15 [(y.nrm 0).1.v, (y.nrm 0).1.v] H = some (.ret (.bool true), H)) ∧ (∀ k t ns m, y = .mk k t ns m → ∀ i ∈ List.range 5, m ≠ [] → ∀ H, callN P3 n 18 [.int .i64 (IntKind.i64.wrap (q + (i : Int))), .int .i64 m.length] H = some (.ret (.int .i64 (within (IntKind.i64.wrap (q + (i : Int))) m.length)), H))) ∧
      H.t.get 0 = some (.row y.cells 0 false (some 28)) ∧ fr 1 = .int .i64 q ∧ fr 5 = .ptr (.new 0) 0 ∧ fr 6 = .int .i64 i) ?_ ?_ n 0 _ _ (by omega) (by omega) ?_
    · rintro i fr H K' hi ⟨y, hy, g0, r1, r5, r6⟩ hKe hKr hK
      have hlt : (i : Int) < 5 := by omega
      have hw := wrap_succ hi (by omega)
      obtain ⟨k, t, ns, m⟩ := y
      rw [X.every] at hy
      obtain ⟨⟨md, n1, n2, n3, n4, n5, n6⟩, hsub⟩ := hy
      have n6 := n6 k t ns m rfl i (List.mem_range.2 hi)
      generalize (X.mk k t ns m).nrm 0 = R at *
      obtain ⟨x, c⟩ := R
      obtain ⟨kx, tx, nx, lx⟩ := x
      simp only [X.v_mk] at n1 n2 n3 n4 n5
      rw [X.cells_mk] at g0
      generalize (X.mk k t ns m).is = b at *
      have hb : (b != b) = false := by simp
      by_cases hm : m = []
      · subst hm
        have h0 : (((0 : Nat) : Int) == 0) = true := rfl
        simp -implicitDefEqProofs only [c3_l0, ↓v_lenS, SB, POp.val, AOp.val, WOp.val, Lite.bin, intBin, strBin, eqv, eqMany, eq1, AV.asBool, AV.asInt, AV.asNat, AV.asPtr, AV.asStr, resVals, ResV.val, oneOr, wants, skipped, fillAt, putAt, capOf, optNat, bnd, Nat.reduceBEq, reduceIte, Nat.reduceAdd, Nat.reduceLeDiff, Nat.reduceEqDiff, Nat.reduceSub, Nat.reduceMul, Nat.reduceDiv, SOper.again, same, sameBlk, sameCap, Nat.reduceBneDiff, s_draw2, s_pair, k_pair, asunder, SOper.into, Bool.not_false, Bool.not_true, CL, XS, g0, r1, r5, r6, hlt, n1, n2, n3, n4, n5, hb, h0, hKr, Ends, gives_ret]
        exact ⟨_, rfl⟩
      · have hpos : 0 < m.length := List.length_pos_iff.2 hm
        have hl60 : m.length ≤ 60 := md.fit.2.1
        have n6 := n6 hm
        have h0 : ((m.length : Int) == 0) = false := by rw [beq_eq_false_iff_ne]; omega
        obtain ⟨j0, j1⟩ := within_range (IntKind.i64.wrap (q + (i : Int))) m.length (by omega) (by omega)
        have hj : (within (IntKind.i64.wrap (q + (i : Int))) m.length).toNat < m.length := by omega
        obtain ⟨z, hz⟩ : ∃ z, m[(within (IntKind.i64.wrap (q + (i : Int))) m.length).toNat]? = some z := ⟨_, List.getElem?_eq_getElem hj⟩
        have hz' := hz
        have hsz := (everys_iff m).1 hsub z (List.mem_of_getElem? hz)
        obtain ⟨kz, tz, nz, lz⟩ := z
        simp -implicitDefEqProofs only [c3_l0, ↓v_lenS, SB, POp.val, AOp.val, WOp.val, Lite.bin, intBin, strBin, eqv, eqMany, eq1, AV.asBool, AV.asInt, AV.asNat, AV.asPtr, AV.asStr, resVals, ResV.val, oneOr, wants, skipped, fillAt, putAt, capOf, optNat, bnd, Nat.reduceBEq, reduceIte, Nat.reduceAdd, Nat.reduceLeDiff, Nat.reduceEqDiff, Nat.reduceSub, Nat.reduceMul, Nat.reduceDiv, SOper.again, same, sameBlk, sameCap, Nat.reduceBneDiff, s_draw2, s_pair, k_pair, asunder, SOper.into, Bool.not_false, Bool.not_true, CL, XS, g0, r1, r5, r6, hlt, n1, n2, n3, n4, n5, hb, h0, n6, j0, iaddr_vXs hz, hw]
        refine hK _ _ ⟨.mk kz tz nz lz, hsz, ?_, ?_⟩
        · rw [X.cells_mk, h_gput, if_pos rfl]
        · simp -implicitDefEqProofs only [↓v_lenS, SB, POp.val, AOp.val, WOp.val, Lite.bin, intBin, strBin, eqv, eqMany, eq1, AV.asBool, AV.asInt, AV.asNat, AV.asPtr, AV.asStr, resVals, ResV.val, oneOr, wants, skipped, fillAt, putAt, capOf, optNat, bnd, Nat.reduceBEq, reduceIte, Nat.reduceAdd, Nat.reduceLeDiff, Nat.reduceEqDiff, Nat.reduceSub, Nat.reduceMul, Nat.reduceDiv, SOper.again, same, sameBlk, sameCap, Nat.reduceBneDiff, s_draw2, s_pair, k_pair, asunder, SOper.into, Bool.not_false, Bool.not_true, r1, r5]
    · rintro fr H K' ⟨y, hy, g0, r1, r5, r6⟩ hKe hKr
      have hlt : ¬ ((5 : Nat) : Int) < 5 := by omega
      simp -implicitDefEqProofs only [c3_l0, ↓v_lenS, SB, POp.val, AOp.val, WOp.val, Lite.bin, intBin, strBin, eqv, eqMany, eq1, AV.asBool, AV.asInt, AV.asNat, AV.asPtr, AV.asStr, resVals, ResV.val, oneOr, wants, skipped, fillAt, putAt, capOf, optNat, bnd, Nat.reduceBEq, reduceIte, Nat.reduceAdd, Nat.reduceLeDiff, Nat.reduceEqDiff, Nat.reduceSub, Nat.reduceMul, Nat.reduceDiv, SOper.again, same, sameBlk, sameCap, Nat.reduceBneDiff, s_draw2, s_pair, k_pair, asunder, SOper.into, Bool.not_false, Bool.not_true, XS, r6, hlt, hKe, Ends, gives_ret]
      exact ⟨_, rfl⟩
    · refine ⟨.mk ke te ne le, hall, ?_, ?_⟩
      · rw [X.cells_mk]
        simp -implicitDefEqProofs only [↓v_lenS, SB, POp.val, AOp.val, WOp.val, Lite.bin, intBin, strBin, eqv, eqMany, eq1, AV.asBool, AV.asInt, AV.asNat, AV.asPtr, AV.asStr, resVals, ResV.val, oneOr, wants, skipped, fillAt, putAt, capOf, optNat, bnd, Nat.reduceBEq, reduceIte, Nat.reduceAdd, Nat.reduceLeDiff, Nat.reduceEqDiff, Nat.reduceSub, Nat.reduceMul, Nat.reduceDiv, SOper.again, same, sameBlk, sameCap, Nat.reduceBneDiff, s_draw2, s_pair, k_pair, asunder, SOper.into, Bool.not_false, Bool.not_true]
      · simp -implicitDefEqProofs only [↓v_lenS, SB, POp.val, AOp.val, WOp.val, Lite.bin, intBin, strBin, eqv, eqMany, eq1, AV.asBool, AV.asInt, AV.asNat, AV.asPtr, AV.asStr, resVals, ResV.val, oneOr, wants, skipped, fillAt, putAt, capOf, optNat, bnd, Nat.reduceBEq, reduceIte, Nat.reduceAdd, Nat.reduceLeDiff, Nat.reduceEqDiff, Nat.reduceSub, Nat.reduceMul, Nat.reduceDiv, SOper.again, same, sameBlk, sameCap, Nat.reduceBneDiff, s_draw2, s_pair, k_pair, asunder, SOper.into, Bool.not_false, Bool.not_true]
        rfl
  · refine (known10.and h11).mono fun n hn H => ?_
    obtain ⟨e10, e11⟩ := hn
    simp -implicitDefEqProofs only [c3, ↓v_lenS, SB, POp.val, AOp.val, WOp.val, Lite.bin, intBin, strBin, eqv, eqMany, eq1, AV.asBool, AV.asInt, AV.asNat, AV.asPtr, AV.asStr, resVals, ResV.val, oneOr, wants, skipped, fillAt, putAt, capOf, optNat, bnd, Nat.reduceBEq, reduceIte, Nat.reduceAdd, Nat.reduceLeDiff, Nat.reduceEqDiff, Nat.reduceSub, Nat.reduceMul, Nat.reduceDiv, SOper.again, same, sameBlk, sameCap, Nat.reduceBneDiff, s_draw2, s_pair, k_pair, asunder, SOper.into, Bool.not_false, Bool.not_true, CL, XS, shutV_vRaws, e10, e11, Ends, gives_ret]
    exact ⟨_, rfl⟩

end Go.Lite

/- The row of the law NormStays, and its card: what its call does, from the interpreter's run; what it lists, tied to the program's text. -/
namespace Go.Proofs.YtlncgbcclmhicaaDoor.normStays
open Go.ChangeShapes Go.WideShapes Go.ChangeAt Go.RowKit Go.Lite
open Go.ChangeMaps (open_string shut_string)
set_option linter.unusedVariables false
set_option maxRecDepth 100000
theorem own : ownKnob Tryd.prog.godebug = none := by kernel_rfl
theorem laidOut : laidOutB Tryd.prog = true := by kernel_rfl
theorem laid_met (os : Os) : laidMet Tryd.prog Rows.normStaysRow.laid ((laidWorld Tryd.prog os [(1, Rows.laid_math_bits_deBruijn32tab), (2, Rows.laid_math_bits_deBruijn64tab), (0, Rows.laid_internal_strconv_uint64pow10)]).forCall (fun _ _ => 0) ⟨#[], #[.slice none 0 0], []⟩).memory :=
  laidMet_of_run' 8 (by kernel_rfl) (by kernel_rfl)
theorem lifted (os : Os) (started : os.Started) (H : Type) (enc : TypeId × Value → H) :
    ReturnsInHanded {} Tryd.checked os 5 .any (fun w args => (Rows.normStaysSpec.pre enc Tryd.prog Tryd.f5 Rows.normStaysRow.domain false w args ∧ laidMet Tryd.prog Rows.normStaysRow.laid w) ∧ sizedMet enc Tryd.prog Tryd.f5 (OpenSpec.ofChange Rows.normStaysSpec) false w args) (Rows.normStaysSpec.post enc Tryd.prog Tryd.f5 false true false false) := by
  refine returns_laid (C := Tryd.checked) (X := fun w _ => laidMet Tryd.prog Rows.normStaysRow.laid w) own started (by kernel_rfl) Tryd.func5
    (ChangeSpec.witness_at (enc := enc) (C := Tryd.checked) (os := os) (X := fun w _ => laidMet Tryd.prog Rows.normStaysRow.laid w) false (laidWorld Tryd.prog os [(1, Rows.laid_math_bits_deBruijn32tab), (2, Rows.laid_math_bits_deBruijn64tab), (0, Rows.laid_internal_strconv_uint64pow10)]) #[.slice none 0 0] 8 rfl (by kernel_rfl) (by kernel_rfl) (by kernel_rfl) (by kernel_rfl) (by kernel_rfl) (laid_met os)) ?_
  intro W base args ds gs before hval0 hW hcnd hsz0 hsh _
  have hsz : (DataW.weightsEach Tryd.prog (Tryd.f5.params.toList ++ Rows.normStaysSpec.plain.varTypes Tryd.prog) (ds ++ gs)).all (· ≤ reachBytes) = true := hsz0
  have hval : ∀ (j : Nat) t v, Tryd.f5.params[j]? = some t → args[j]? = some v → Value.okWide Tryd.prog W .any base t v := hval0
  have hW' := hW
  obtain ⟨p, q, hA0, hV, rfl, hfz, hnd⟩ := hW
  have hA : DataW.TrodAll enc Tryd.prog W 0 (fun _ => true) true Tryd.f5.params.toList args.toList ds p := hA0
  rw [Tryd.params5] at hA hval hsz
  obtain ⟨v0, vs0, d0, ds0, p0, q0, hargs, rfl, rfl, h0, r0⟩ := trodAll_cons hA
  obtain ⟨rfl, rfl, rfl⟩ := trodAll_nil r0
  obtain rfl : args = #[v0] := by cases args; simp_all
  obtain ⟨rfl, rfl⟩ := trodVars_none hV
  have k0 := h0
  have lt0 : ∀ x ∈ p0, x.block < W.heap.size := by obtain ⟨m, hm⟩ := k0; exact DataW.trod_lt m _ _ _ hm
  have o0 := (hval 0 22 v0 rfl rfl)
  obtain ⟨z0, n0, c0, rfl⟩ := okWide_slice Tryd.underlying22 o0
  obtain ⟨g0, y0⟩ := h0
  obtain ⟨a0, ⟨w0, x0⟩, e0⟩ := open_raws Tryd.underlying22 Tryd.underlying53 (by kernel_rfl) ⟨_, rfl, rfl, Tryd.underlying3, by kernel_rfl⟩ ⟨_, rfl, rfl, Tryd.underlying3, by kernel_rfl⟩ ⟨_, rfl, rfl, rfl, by kernel_rfl⟩ g0 (.slice z0 n0 c0) _ (by simpa [Value.cells] using y0)
  refine (calls_of_ret hsh (law5 a0 w0 x0) (by simp only [VRels]; exact ⟨_, _, rfl, e0, rfl⟩)).mono fun e W' ⟨he, bel⟩ => ?_
  subst he
  exact ⟨_, rfl, _, _, _, [], _, [], hW', trodAll_mk1 (shut_bool Tryd.underlying4 _), (trodAll_cons_mk (Below.trod laidOut (by kernel_rfl) (of_decide_eq_true (by kernel_rfl)) k0 bel lt0) trodAll_mk0), rfl, bel.frame _, fun h => by cases h⟩
theorem over : Rows.normStaysRow.holds Tryd.pinned (OpenSpec.ofChange Rows.normStaysSpec) :=
  OpenClaim.holds_of_wide 5 Tryd.f5 rfl rfl rfl rfl rfl rfl rfl ⟨rfl, rfl, rfl, rfl, rfl⟩ rfl rfl rfl rfl rfl (by kernel_rfl) Tryd.func5 (by kernel_rfl)
    (of_decide_eq_true (by kernel_rfl)) (by unfold Func.isWrapper; first | (rw [if_pos (by decide +kernel)]; kernel_rfl) | (rw [if_neg (by decide +kernel)]; exact ⟨rfl, rfl⟩))
    (fun os started H enc _ => lifted os started H enc)
theorem card : Rows.NormStaysCardSaid :=
  Claim7.holds_tied_plain_at .later [] [.data, .data, .data] true (true, "05371768a2b689a778b004fff7a7d4b6c1552bdb147ddd328a44f6f4ba8b0971") false over (fun _ h => by cases h) (by kernel_rfl) (fun _ h => by cases h) normStays_row_tie rfl ⟨rfl, rfl⟩ (by kernel_rfl) (by first | rfl | decide)
    (fun f fn h1 h2 => by
      obtain rfl : f = 5 := Option.some.inj (h1.symm.trans (by kernel_rfl))
      obtain rfl : fn = Tryd.f5 := Option.some.inj (h2.symm.trans Tryd.func5)
      refine ⟨by kernel_rfl, fun j t hj => ?_⟩
      rw [Tryd.params5] at hj
      match j, hj with
      | 0, hj =>
        obtain rfl : t = 22 := by simpa using hj.symm
        exact (by kernel_rfl : Tryd.pinned.checked.prog.wantsStandIn 22 = false)
      | j + 1, hj => simp at hj)
    (by kernel_rfl)
#print axioms card
end Go.Proofs.YtlncgbcclmhicaaDoor.normStays
namespace Go.Proofs.YtlncgbcclmhicaaDoor
/-- The card, under a short name, for the claim. -/
theorem normStays_holds : Rows.NormStaysCardSaid := normStays.card
end Go.Proofs.YtlncgbcclmhicaaDoor
