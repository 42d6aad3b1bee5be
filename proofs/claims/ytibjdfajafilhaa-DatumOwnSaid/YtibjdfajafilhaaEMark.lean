/-
  Raw data made data, marked; copies; what is plain.
-/
import Derived.Test.YtibjdfajafilhaaEMake
namespace Go.Lite
open Go Go.Proofs
set_option maxRecDepth 100000
set_option linter.unusedSimpArgs false
set_option linter.unusedVariables false

theorem all13 (l : List Raw) (hc : Raw.cnts l ≤ 1048576) : Ret P2 13 [vRaws l] (vData (Raw.makes l)) := by
  have hll := len_le_cnts l
  refine Ret.of rfl (code13 _ _) rfl rfl (fun H => by simp -implicitDefEqProofs only [↓v_lenS, SB, POp.val, AOp.val, WOp.val, Lite.bin, intBin, strBin, eqv, eqMany, eq1, AV.asBool, AV.asInt, AV.asNat, AV.asPtr, AV.asStr, resVals, ResV.val, oneOr, wants, skipped, fillAt, putAt, capOf, optNat, bnd, Nat.reduceBEq, reduceIte, Nat.reduceAdd, Nat.reduceLeDiff, Nat.reduceEqDiff, Nat.reduceSub, Nat.reduceMul, Nat.reduceDiv, SOper.again, same, sameBlk, sameCap, Nat.reduceBneDiff, s_draw2, s_pair, k_pair, asunder, SOper.into, Bool.not_false, Bool.not_true, shutV_vRaws]) ?_
  refine ((Ev.all l fun r hr => make30 r (by have := cnt_mem hr; omega)).and (Ev.ge (l.length + 1))).mono fun n hn H => ?_
  obtain ⟨ihn, hge⟩ := hn
  simp -implicitDefEqProofs only [c13, ↓v_lenS, SB, POp.val, AOp.val, WOp.val, Lite.bin, intBin, strBin, eqv, eqMany, eq1, AV.asBool, AV.asInt, AV.asNat, AV.asPtr, AV.asStr, resVals, ResV.val, oneOr, wants, skipped, fillAt, putAt, capOf, optNat, bnd, Nat.reduceBEq, reduceIte, Nat.reduceAdd, Nat.reduceLeDiff, Nat.reduceEqDiff, Nat.reduceSub, Nat.reduceMul, Nat.reduceDiv, SOper.again, same, sameBlk, sameCap, Nat.reduceBneDiff, s_draw2, s_pair, k_pair, asunder, SOper.into, Bool.not_false, Bool.not_true, CL]
  refine loop_rounds l.length (fun i fr H => ∃ v, Acc 0 H 30 5 i ((Raw.makes (l.take i)).flatMap D.cells) v ∧ HLow H ∧ fr 0 = vRaws l ∧ fr 3 = v ∧ fr 4 = .int .i64 i) ?_ ?_ n 0 _ _ (by omega) (by omega) ?_
  · rintro i fr H K' hi ⟨v, acc, low, h0, h3, h4⟩ hKe hKr hK
    obtain ⟨r, hr⟩ : ∃ r, l[i]? = some r := ⟨l[i], List.getElem?_eq_getElem hi⟩
    have e1 := ihn r (List.mem_of_getElem? hr)
    have hlt : (i : Int) < (l.length : Int) := by omega
    have hw := wrap_succ hi (by omega)
    have hmt := makes_take hr
    have fv := acc.flat
    generalize r.make = d at *
    obtain ⟨k', q', l'⟩ := r
    obtain ⟨kd, td, md, ld, ad⟩ := d
    rw [D.v_mk, Raw.cells_mk] at e1
    obtain ⟨v', H', happ, acc', kp, low'⟩ := (acc.push low (ob := .row [.int .i64 kd, .str td, vInts md, vData ld, .int .i64 ad] 0 true none)).more (e := 30) (bs := 80) (m := 1) (ys := [.int .i64 kd, .str td, vInts md, vData ld, .int .i64 ad]) (Nat.zero_le _) low.push (by decide) rfl five_flat (by omega)
    simp -implicitDefEqProofs only [c13_l0, ↓v_lenS, SB, POp.val, AOp.val, WOp.val, Lite.bin, intBin, strBin, eqv, eqMany, eq1, AV.asBool, AV.asInt, AV.asNat, AV.asPtr, AV.asStr, resVals, ResV.val, oneOr, wants, skipped, fillAt, putAt, capOf, optNat, bnd, Nat.reduceBEq, reduceIte, Nat.reduceAdd, Nat.reduceLeDiff, Nat.reduceEqDiff, Nat.reduceSub, Nat.reduceMul, Nat.reduceDiv, SOper.again, same, sameBlk, sameCap, Nat.reduceBneDiff, s_draw2, s_pair, k_pair, asunder, SOper.into, Bool.not_false, Bool.not_true, CL, DS, h0, h3, h4, hlt, iaddr_vRaws hr, Raw.cells_mk, len_vRaws, shutC_vRaws, e1, k_taken, happ, hw]
    refine hK _ _ ⟨v', ?_, low', ?_⟩
    · rw [hmt, flat_snoc, D.cells_mk]
      exact acc'
    · simp -implicitDefEqProofs only [↓v_lenS, SB, POp.val, AOp.val, WOp.val, Lite.bin, intBin, strBin, eqv, eqMany, eq1, AV.asBool, AV.asInt, AV.asNat, AV.asPtr, AV.asStr, resVals, ResV.val, oneOr, wants, skipped, fillAt, putAt, capOf, optNat, bnd, Nat.reduceBEq, reduceIte, Nat.reduceAdd, Nat.reduceLeDiff, Nat.reduceEqDiff, Nat.reduceSub, Nat.reduceMul, Nat.reduceDiv, SOper.again, same, sameBlk, sameCap, Nat.reduceBneDiff, s_draw2, s_pair, k_pair, asunder, SOper.into, Bool.not_false, Bool.not_true, h0]
  · rintro fr H K' ⟨v, acc, low, h0, h3, h4⟩ hKe hKr
    rw [List.take_length] at acc
    obtain ⟨H', hsh, kp⟩ := acc.shutV (by decide) (Still.flat D.still _)
    simp only [← makes_len l, L_vData] at hsh
    simp -implicitDefEqProofs only [c13_l0, ↓v_lenS, SB, POp.val, AOp.val, WOp.val, Lite.bin, intBin, strBin, eqv, eqMany, eq1, AV.asBool, AV.asInt, AV.asNat, AV.asPtr, AV.asStr, resVals, ResV.val, oneOr, wants, skipped, fillAt, putAt, capOf, optNat, bnd, Nat.reduceBEq, reduceIte, Nat.reduceAdd, Nat.reduceLeDiff, Nat.reduceEqDiff, Nat.reduceSub, Nat.reduceMul, Nat.reduceDiv, SOper.again, same, sameBlk, sameCap, Nat.reduceBneDiff, s_draw2, s_pair, k_pair, asunder, SOper.into, Bool.not_false, Bool.not_true, CL, DS, h0, h3, h4, Int.lt_irrefl, len_vRaws, hKe, Ends, gives_ret, hsh]
    exact ⟨_, rfl⟩
  · refine ⟨.nils, Acc.nil, HLow.bare, ?_⟩
    simp -implicitDefEqProofs only [↓v_lenS, SB, POp.val, AOp.val, WOp.val, Lite.bin, intBin, strBin, eqv, eqMany, eq1, AV.asBool, AV.asInt, AV.asNat, AV.asPtr, AV.asStr, resVals, ResV.val, oneOr, wants, skipped, fillAt, putAt, capOf, optNat, bnd, Nat.reduceBEq, reduceIte, Nat.reduceAdd, Nat.reduceLeDiff, Nat.reduceEqDiff, Nat.reduceSub, Nat.reduceMul, Nat.reduceDiv, SOper.again, same, sameBlk, sameCap, Nat.reduceBneDiff, s_draw2, s_pair, k_pair, asunder, SOper.into, Bool.not_false, Bool.not_true]
    rfl

/-! ### Marks -/

/-- marks that may still come: so many; from there on -/
def marksN (ns : List Int) : Nat → Nat → List Int × Nat
  | 0, a => ([], a)
  | m + 1, a => match ns[a]? with
    | some x => if within x 3 > 0 then ((1 + within x 5) :: (marksN ns m (a + 1)).1, (marksN ns m (a + 1)).2) else ([], a)
    | none => ([], a)

mutual
/-- a datum, its symbols with marks by numbers; where it goes on -/
def D.marked (ns : List Int) : D → Nat → D × Nat
  | .mk k t _ l _, a =>
    let m := if k = 3 then marksN ns 4 a else ([], a)
    let r := D.markeds ns l (m.2 + 1)
    (.mk k t m.1 r.1 a, r.2)
def D.markeds (ns : List Int) : List D → Nat → List D × Nat
  | [], a => ([], a)
  | d :: ds, a => (((D.marked ns d a).1) :: (D.markeds ns ds (D.marked ns d a).2).1, (D.markeds ns ds (D.marked ns d a).2).2)
end

theorem marksN_le (ns : List Int) : ∀ m a, (marksN ns m a).2 ≤ a + m ∧ (marksN ns m a).2 = a + (marksN ns m a).1.length ∧ (marksN ns m a).1.length ≤ m
  | 0, a => by simp [marksN]
  | m + 1, a => by
    have := marksN_le ns m (a + 1)
    rw [marksN]
    split
    · split
      · simp only [List.length_cons]; omega
      · simp
    · simp

theorem marked_le (ns : List Int) : ∀ d : D, ∀ a, (d.marked ns a).2 ≤ a + 5 * d.size := D.indA fun k t ms l p ih a => by
  have h : ∀ l : List D, (∀ d ∈ l, ∀ a, (d.marked ns a).2 ≤ a + 5 * d.size) → ∀ a, (D.markeds ns l a).2 ≤ a + 5 * D.sizes l := by
    intro l
    induction l with
    | nil => intro _ a; simp [D.markeds, D.sizes]
    | cons d ds ih =>
      intro h a
      rw [D.markeds, D.sizes]
      have h1 := h d (by simp) a
      have h2 := ih (fun e he => h e (by simp [he])) (d.marked ns a).2
      simp only [] at h2 ⊢
      omega
  rw [D.marked, D.size]
  have h1 : (if k = 3 then marksN ns 4 a else ([], a)).2 ≤ a + 4 := by
    split
    · exact (marksN_le ns 4 a).1
    · simp
  have h2 := h l ih ((if k = 3 then marksN ns 4 a else ([], a)).2 + 1)
  simp only [] at h2 ⊢
  omega

theorem markeds_append (ns : List Int) (l l' : List D) (a : Nat) : D.markeds ns (l ++ l') a = ((D.markeds ns l a).1 ++ (D.markeds ns l' (D.markeds ns l a).2).1, (D.markeds ns l' (D.markeds ns l a).2).2) := by
  induction l generalizing a with
  | nil => simp [D.markeds]
  | cons d l ih => simp only [List.cons_append, D.markeds, ih]

theorem markeds_take {ns : List Int} {l : List D} {i : Nat} {d : D} (h : l[i]? = some d) (a : Nat) :
    D.markeds ns (l.take (i + 1)) a = ((D.markeds ns (l.take i) a).1 ++ [(d.marked ns (D.markeds ns (l.take i) a).2).1], (d.marked ns (D.markeds ns (l.take i) a).2).2) := by
  rw [List.take_add_one, h, Option.toList_some, markeds_append]
  simp [D.markeds]

theorem markeds_le (ns : List Int) (l : List D) (a : Nat) : (D.markeds ns l a).2 ≤ a + 5 * D.sizes l := by
  induction l generalizing a with
  | nil => simp [D.markeds, D.sizes]
  | cons d ds ih =>
    rw [D.markeds, D.sizes]
    have h1 := marked_le ns d a
    have h2 := ih (d.marked ns a).2
    simp only [] at h2 ⊢
    omega

theorem markeds_len (ns : List Int) (l : List D) (a : Nat) : (D.markeds ns l a).1.length = l.length := by
  induction l generalizing a with
  | nil => simp [D.markeds]
  | cons d ds ih => simp only [D.markeds, List.length_cons, ih]

def vIntsF (f : Bool) (ns : List Int) : AV := vList f 1 int1 ns
theorem iaddr_vIntsF {f : Bool} {l : List Int} {j : Nat} {d : Int} (h : l[j]? = some d) : iaddrV 1 (vIntsF f l) j = some (.ptr (.val [.int .i64 d]) 0) := iaddr_at int1_len h
theorem len_vIntsF {f : Bool} {ms : List Int} : lenM (vIntsF f ms) = some (.int .i64 ms.length) := len_vList
theorem shutV_vIntsF {f : Bool} {ms : List Int} {H : Heap} : shutV (vIntsF f ms) H = some (vIntsF f ms, H) := shutV_vList
theorem int1_still (n : Int) : Still (int1 n) := Still.int _ _
theorem int1_flat (n : Int) : (int1 n).all AV.flat = true := rfl

theorem marksN_at (ns : List Int) : ∀ (m a j : Nat), j < (marksN ns m a).1.length → ∃ x, ns[a + j]? = some x ∧ within x 3 > 0 ∧ (marksN ns m a).1[j]? = some (1 + within x 5)
  | 0, a, j, h => by simp [marksN] at h
  | m + 1, a, j, h => by
    rw [marksN] at h ⊢
    split at h
    · rename_i x hx
      split at h
      · rename_i hw
        rw [if_pos hw]
        cases j with
        | zero => exact ⟨x, hx, hw, rfl⟩
        | succ j =>
          obtain ⟨y, h1, h2, h3⟩ := marksN_at ns m (a + 1) j (by simpa using h)
          exact ⟨y, by rw [show a + (j + 1) = a + 1 + j by omega]; exact h1, h2, by simpa using h3⟩
      · simp at h
    · simp at h

theorem marksN_end (ns : List Int) : ∀ (m a : Nat), (marksN ns m a).1.length = m ∨ ns[a + (marksN ns m a).1.length]? = none ∨ ∃ x, ns[a + (marksN ns m a).1.length]? = some x ∧ ¬ within x 3 > 0
  | 0, a => .inl (by simp [marksN])
  | m + 1, a => by
    rw [marksN]
    split
    · rename_i x hx
      split
      · rename_i hw
        have := marksN_end ns m (a + 1)
        simp only [List.length_cons]
        rw [show a + ((marksN ns m (a + 1)).1.length + 1) = a + 1 + (marksN ns m (a + 1)).1.length by omega]
        rcases this with h | h
        · exact .inl (by rw [h])
        · exact .inr h
      · rename_i hw
        exact .inr (.inr ⟨x, by simpa using hx, hw⟩)
    · rename_i hx
      exact .inr (.inl (by simpa using hx))

theorem int_flat1 {n : Int} : [AV.int .i64 n].all AV.flat = true := rfl
theorem L_vInts (l : List Int) : AV.L true 1 (l.flatMap int1) l.length = vInts l := rfl

/-- Marked -/
def MarkedOk (f : Bool) (ns : List Int) (d : D) : Prop := ∀ a : Nat, a + 5 * d.size ≤ 1048576 → Ev fun n => ∀ (H : Heap) (k0 : Nat) (ty : Option Nat), HLow H → H.t.get k0 = some (.row [.int .i64 a] 0 false ty) →
  Gives (call1 P2 n 16 [d.v, vIntsF f ns, .ptr (.new k0) 0] H) fun v H' => v = (d.marked ns a).1.v ∧ H'.t.get k0 = some (.row [.int .i64 (d.marked ns a).2] 0 false ty) ∧ HKeep (only k0) H H'

theorem marked16 (f : Bool) (ns : List Int) : ∀ d, MarkedOk f ns d := D.indA fun k t ms l p ih a ha => by
  rw [D.size] at ha
  have hll := D.len_le_sizes l
  have hw5 : ∀ x ∈ ns, Ret P2 20 [.int .i64 x, .int .i64 5] (.int .i64 (within x 5)) := fun x _ => run20 x 5 (by decide)
  have hw3 : ∀ x ∈ ns, Ret P2 20 [.int .i64 x, .int .i64 3] (.int .i64 (within x 3)) := fun x _ => run20 x 3 (by decide)
  have ihe : Ev fun n => ∀ d ∈ l, ∀ b ∈ List.range (a + 5 * D.sizes l + 6), b + 5 * d.size ≤ 1048576 → ∀ (H : Heap) (k0 : Nat) (ty : Option Nat), HLow H → H.t.get k0 = some (.row [.int .i64 b] 0 false ty) →
      Gives (call1 P2 n 16 [d.v, vIntsF f ns, .ptr (.new k0) 0] H) fun v H' => v = (d.marked ns b).1.v ∧ H'.t.get k0 = some (.row [.int .i64 (d.marked ns b).2] 0 false ty) ∧ HKeep (only k0) H H' := by
    refine Ev.all l fun d hd => Ev.all _ fun b hb => ?_
    by_cases h : b + 5 * d.size ≤ 1048576
    · exact (ih d hd b h).mono fun n hn _ => hn
    · exact Ev.of fun n h' => absurd h' h
  refine Ev.succ (((Ev.all ns hw5).and ((Ev.all ns hw3).and (ihe.and (Ev.ge (l.length + 6))))).mono fun n hn H k0 ty low g0 => ?_)
  obtain ⟨w5, w3, ihn, hge⟩ := hn
  rw [call1_code (P := P2) (sf := c16) (code16 _ _) rfl]
  refine gives_settled ?_
  have hk0 := low.lt g0
  have n0 : ¬ k0 = H.n := by omega
  have n1 : ¬ k0 = H.n + 1 := by omega
  have n2 : ¬ k0 = H.n + 2 := by omega
  have n2' : ¬ k0 = H.n + 1 + 1 := by omega
  rw [D.marked]
  generalize hm : (if k = 3 then marksN ns 4 a else ([], a)) = M
  obtain ⟨marks, a1⟩ := M
  simp only []
  have hM : a1 = a + marks.length ∧ marks.length ≤ 4 ∧ (∀ j, j < marks.length → k = 3 ∧ ∃ x, ns[a + j]? = some x ∧ within x 3 > 0 ∧ marks[j]? = some (1 + within x 5)) ∧ (k ≠ 3 ∨ marks.length = 4 ∨ ns[a + marks.length]? = none ∨ ∃ x, ns[a + marks.length]? = some x ∧ ¬ within x 3 > 0) := by
    by_cases hk : k = 3
    · rw [if_pos hk] at hm
      have h1 := marksN_le ns 4 a
      have h2 := marksN_at ns 4 a
      have h3 := marksN_end ns 4 a
      rw [hm] at h1 h2 h3
      exact ⟨h1.2.1, h1.2.2, fun j hj => ⟨hk, h2 j hj⟩, .inr h3⟩
    · rw [if_neg hk] at hm
      simp only [Prod.mk.injEq] at hm
      obtain ⟨rfl, rfl⟩ := hm
      exact ⟨by simp, by simp, fun j hj => by simp at hj, .inl hk⟩
  obtain ⟨hM1, hM2, hM3, hM4⟩ := hM
  clear hm
  simp -implicitDefEqProofs only [c16, ↓v_lenS, SB, POp.val, AOp.val, WOp.val, Lite.bin, intBin, strBin, eqv, eqMany, eq1, AV.asBool, AV.asInt, AV.asNat, AV.asPtr, AV.asStr, resVals, ResV.val, oneOr, wants, skipped, fillAt, putAt, capOf, optNat, bnd, Nat.reduceBEq, reduceIte, Nat.reduceAdd, Nat.reduceLeDiff, Nat.reduceEqDiff, Nat.reduceSub, Nat.reduceMul, Nat.reduceDiv, SOper.again, same, sameBlk, sameCap, Nat.reduceBneDiff, s_draw2, s_pair, k_pair, asunder, SOper.into, Bool.not_false, Bool.not_true, CL, DS, g0, n0, n1, n2]
  refine loop_rounds marks.length (fun j fr H2 => ∃ v, Acc H.n H2 3 1 j ((marks.take j).flatMap int1) v ∧ HLow H2 ∧ HKeep (only k0) H H2 ∧ H.n + 2 < H2.n ∧ H2.t.get k0 = some (.row [.int .i64 ((a + j : Nat) : Int)] 0 false ty) ∧ fr 1 = vIntsF f ns ∧ fr 2 = .ptr (.new k0) 0 ∧ fr 3 = .ptr (.new H.n) 0 ∧ fr 6 = .ptr (.new (H.n + 1)) 0 ∧ fr 7 = .ptr (.new (H.n + 2)) 0 ∧
      H2.t.get H.n = some (.row [.int .i64 k, .str t, vInts ms, vData l, .int .i64 p] 0 false (some 30)) ∧ H2.t.get (H.n + 1) = some (.row [.int .i64 0, .str [], .nils, .nils, .int .i64 0] 0 false (some 30)) ∧ H2.t.get (H.n + 2) = some (.row [.int .i64 k, .str t, v, .nils, .int .i64 a] 0 false (some 30))) ?_ ?_ n 0 _ _ (by omega) (by omega) ?_
  · rintro j fr H2 K' hj ⟨v, acc, low2, kp, hn2, gk, h1, h2, h3, h6, h7, gb0, gb1, gb2⟩ hKe hKr hK
    obtain ⟨rfl, x, hx, hx3, hmj⟩ := hM3 j hj
    have hxm := List.mem_of_getElem? hx
    have hlt := (List.getElem?_eq_some_iff.1 hx).1
    have hlti : ((a + j : Nat) : Int) < (ns.length : Int) := by omega
    have hj4 : ((j : Nat) : Int) < 4 := by omega
    have fv := acc.flat
    have e3 := w3 x hxm
    have e5 := w5 x hxm
    obtain ⟨r0, r1⟩ := within_range x 5 (by decide) (by decide)
    have hw1 : IntKind.i64.wrap (1 + within x 5) = 1 + within x 5 := wrap64 (by omega) (by omega)
    have hw2 : IntKind.i64.wrap (((a + j : Nat) : Int) + 1) = ((a + (j + 1) : Nat) : Int) := by rw [wrap64 (by omega) (by omega)]; omega
    obtain ⟨v', H', happ, acc', kp', low'⟩ := (acc.push low2 (ob := .row [.int .i64 (1 + within x 5)] 0 true none)).more (e := 3) (bs := 8) (m := 1) (ys := [.int .i64 (1 + within x 5)]) (by rw [h_n]; omega) low2.push (by decide) rfl int_flat1 (by omega)
    have m0 : ¬ k0 = H2.n := by omega
    have m1 : ¬ H.n = H2.n := by omega
    have m2 : ¬ H.n + 1 = H2.n := by omega
    have m3 : ¬ H.n + 2 = H2.n := by omega
    have gk' := (acc.push low2).row (by decide) kp' (j := k0) (by rw [h_get, if_neg m0]; exact gk)
    have gb0' := (acc.push low2).row (by decide) kp' (j := H.n) (by rw [h_get, if_neg m1]; exact gb0)
    have gb1' := (acc.push low2).row (by decide) kp' (j := H.n + 1) (by rw [h_get, if_neg m2]; exact gb1)
    have gb2' := (acc.push low2).row (by decide) kp' (j := H.n + 2) (by rw [h_get, if_neg m3]; exact gb2)
    have fv' := acc'.flat
    have lv := acc.len
    have k3 : ((3 : Int) == 3) = true := rfl
    have z1 : ¬ H.n + 2 = k0 := by omega
    have z2 : ¬ H.n = k0 := by omega
    have z3 : ¬ H.n + 1 = k0 := by omega
    have z4 : ¬ H.n = H.n + 2 := by omega
    have z5 : ¬ H.n + 1 = H.n + 2 := by omega
    simp -implicitDefEqProofs only [c16_l0, ↓v_lenS, SB, POp.val, AOp.val, WOp.val, Lite.bin, intBin, strBin, eqv, eqMany, eq1, AV.asBool, AV.asInt, AV.asNat, AV.asPtr, AV.asStr, resVals, ResV.val, oneOr, wants, skipped, fillAt, putAt, capOf, optNat, bnd, Nat.reduceBEq, reduceIte, Nat.reduceAdd, Nat.reduceLeDiff, Nat.reduceEqDiff, Nat.reduceSub, Nat.reduceMul, Nat.reduceDiv, SOper.again, same, sameBlk, sameCap, Nat.reduceBneDiff, s_draw2, s_pair, k_pair, asunder, SOper.into, Bool.not_false, Bool.not_true, CL, DS, h1, h2, h3, h6, h7, gk, gb0, gb1, gb2, k3, hlti, hx3, hj4, iaddr_vIntsF hx, len_vIntsF, lv, e3, e5, hw1, k_taken, happ, gk', gb2', fv', n2, hw2]
    have hn' : H.n + 2 < H'.n := low'.lt gb2'
    have hkk : H'.n = H'.n := rfl
    refine hK _ _ ⟨v', ?_, (low'.put hn').put (by rw [h_nput]; exact low'.lt gk'), ?_, ?_⟩
    · have : marks.take (j + 1) = marks.take j ++ [1 + within x 5] := by rw [List.take_add_one, hmj]; rfl
      rw [this, flat_snoc]
      have a2 := acc'.put (k := H.n + 2) (by decide) gb2' (ob := .row [.int .i64 3, .str t, v', .nils, .int .i64 a] 0 false (some 30))
      exact a2.put (k := k0) (by decide) (by rw [h_gput, if_neg n2]; exact gk')
    · have q1 : HKeep (only k0) H H' := (acc.push low2).keeps (kp.pushed low) low kp'
      have q2 := q1.own low (j := H.n + 2) (by omega) hn' (ob := .row [.int .i64 3, .str t, v', .nils, .int .i64 a] 0 false (some 30))
      exact q2.trans (HKeep.put (X := only k0) (fun _ => rfl) (by rw [h_nput]; exact low'.lt gk'))
    · simp -implicitDefEqProofs only [↓v_lenS, SB, POp.val, AOp.val, WOp.val, Lite.bin, intBin, strBin, eqv, eqMany, eq1, AV.asBool, AV.asInt, AV.asNat, AV.asPtr, AV.asStr, resVals, ResV.val, oneOr, wants, skipped, fillAt, putAt, capOf, optNat, bnd, Nat.reduceBEq, reduceIte, Nat.reduceAdd, Nat.reduceLeDiff, Nat.reduceEqDiff, Nat.reduceSub, Nat.reduceMul, Nat.reduceDiv, SOper.again, same, sameBlk, sameCap, Nat.reduceBneDiff, s_draw2, s_pair, k_pair, asunder, SOper.into, Bool.not_false, Bool.not_true, h1, h2, h3, h6, h7, n2, z1, z2, z3, z4, z5, gb0', gb1', gb2', gk']
      exact hn'
  · rintro fr H2 K' ⟨v, acc, low2, kp, hn2, gk, h1, h2, h3, h6, h7, gb0, gb1, gb2⟩ hKe hKr
    rw [List.take_length] at acc
    have fv := acc.flat
    have lv := acc.len
    have z1 : ¬ H.n + 2 = k0 := by omega
    have z2 : ¬ H.n = k0 := by omega
    have z3 : ¬ H.n + 1 = k0 := by omega
    have hwa : IntKind.i64.wrap (((a + marks.length : Nat) : Int) + 1) = ((a1 + 1 : Nat) : Int) := by rw [wrap64 (by omega) (by omega)]; omega
    -- the loop ends; it goes on
    have rest : ∀ fr' : Fr, fr' 1 = vIntsF f ns → fr' 2 = .ptr (.new k0) 0 → fr' 3 = .ptr (.new H.n) 0 → fr' 6 = .ptr (.new (H.n + 1)) 0 → fr' 7 = .ptr (.new (H.n + 2)) 0 →
        Gives (K' (.exit 0) fr' H2) fun v0 H' => ∃ v H'', shutV v0 H' = some (v, H'') ∧ v = .agg [.int .i64 k, .str t, vInts marks, vData (D.markeds ns l (a1 + 1)).1, .int .i64 a] ∧ H''.t.get k0 = some (.row [.int .i64 (D.markeds ns l (a1 + 1)).2] 0 false ty) ∧ HKeep (only k0) H H'' := by
      intro fr' f1 f2 f3 f6 f7
      have acc3 := acc.put (k := k0) (by decide) gk (ob := .row [.int .i64 ((a1 + 1 : Nat) : Int)] 0 false ty)
      simp -implicitDefEqProofs only [hKe, ↓v_lenS, SB, POp.val, AOp.val, WOp.val, Lite.bin, intBin, strBin, eqv, eqMany, eq1, AV.asBool, AV.asInt, AV.asNat, AV.asPtr, AV.asStr, resVals, ResV.val, oneOr, wants, skipped, fillAt, putAt, capOf, optNat, bnd, Nat.reduceBEq, reduceIte, Nat.reduceAdd, Nat.reduceLeDiff, Nat.reduceEqDiff, Nat.reduceSub, Nat.reduceMul, Nat.reduceDiv, SOper.again, same, sameBlk, sameCap, Nat.reduceBneDiff, s_draw2, s_pair, k_pair, asunder, SOper.into, Bool.not_false, Bool.not_true, CL, f1, f2, f3, f6, f7, gk, hwa]
      refine loop_rounds l.length (fun i fr H4 => ∃ u, Acc H.n H4 30 5 i ((D.markeds ns (l.take i) (a1 + 1)).1.flatMap D.cells) u ∧ Acc H.n H4 3 1 marks.length (marks.flatMap int1) v ∧ HLow H4 ∧ HKeep (only k0) H H4 ∧ H4.t.get k0 = some (.row [.int .i64 (D.markeds ns (l.take i) (a1 + 1)).2] 0 false ty) ∧
          fr 1 = vIntsF f ns ∧ fr 2 = .ptr (.new k0) 0 ∧ fr 3 = .ptr (.new H.n) 0 ∧ fr 6 = .ptr (.new (H.n + 1)) 0 ∧ fr 7 = .ptr (.new (H.n + 2)) 0 ∧ fr 8 = .int .i64 i ∧
          H4.t.get H.n = some (.row [.int .i64 k, .str t, vInts ms, vData l, .int .i64 p] 0 false (some 30)) ∧ H4.t.get (H.n + 1) = some (.row [.int .i64 0, .str [], .nils, .nils, .int .i64 0] 0 false (some 30)) ∧ H4.t.get (H.n + 2) = some (.row [.int .i64 k, .str t, v, u, .int .i64 a] 0 false (some 30))) ?_ ?_ n 0 _ _ (by omega) (by omega) ?_
      · rintro i fr H4 K2 hi ⟨u, accu, accv, low4, kp4, gk4, r1, r2, r3, r6, r7, r8, gc0, gc1, gc2⟩ hKe2 hKr2 hK
        obtain ⟨d, hd⟩ : ∃ d, l[i]? = some d := ⟨l[i], List.getElem?_eq_getElem hi⟩
        have hlt : (i : Int) < (l.length : Int) := by omega
        have hw := wrap_succ hi (by omega)
        have hmt := markeds_take (ns := ns) hd (a1 + 1)
        have hml := markeds_le ns (l.take i) (a1 + 1)
        have hsz := D.sizes_take hd
        have hsl := D.sizes_take_le l (i + 1)
        have e1 := ihn d (List.mem_of_getElem? hd) (D.markeds ns (l.take i) (a1 + 1)).2 (List.mem_range.2 (by omega)) (by omega) H4 k0 ty low4 gk4
        generalize (D.markeds ns (l.take i) (a1 + 1)).2 = b at *
        generalize (D.markeds ns (l.take i) (a1 + 1)).1 = dl at *
        generalize d.marked ns b = R at *
        obtain ⟨d2, b2⟩ := R
        simp only [] at e1 hmt
        obtain ⟨kd, td, md, ld, ad⟩ := d
        obtain ⟨k2, t2, m2, l2, p2⟩ := d2
        simp only [D.v_mk] at e1
        have hn4 := low4.lt gc2
        have fu := accu.flat
        have fw := accv.flat
        simp -implicitDefEqProofs only [c16_l1, ↓v_lenS, SB, POp.val, AOp.val, WOp.val, Lite.bin, intBin, strBin, eqv, eqMany, eq1, AV.asBool, AV.asInt, AV.asNat, AV.asPtr, AV.asStr, resVals, ResV.val, oneOr, wants, skipped, fillAt, putAt, capOf, optNat, bnd, Nat.reduceBEq, reduceIte, Nat.reduceAdd, Nat.reduceLeDiff, Nat.reduceEqDiff, Nat.reduceSub, Nat.reduceMul, Nat.reduceDiv, SOper.again, same, sameBlk, sameCap, Nat.reduceBneDiff, s_draw2, s_pair, k_pair, asunder, SOper.into, Bool.not_false, Bool.not_true, CL, DS, r1, r2, r3, r6, r7, r8, gc0, gc1, gc2, hlt, iaddr_vData hd, shutV_vIntsF, softV_some shutV_vIntsF]
        refine gives_call e1 ?_
        rintro w H5 ⟨rfl, gk5, kp5⟩
        have low5 := kp5.low low4
        have gd0 := kp5.get _ _ gc0 (only_row z2)
        have gd1 := kp5.get _ _ gc1 (only_row z3)
        have gd2 := kp5.get _ _ gc2 (only_row z1)
        have hn5 := low5.lt gd2
        have accu5 := accu.kept kp5 fun j hj _ => only_row (by omega)
        have accv5 := accv.kept kp5 fun j hj _ => only_row (by omega)
        obtain ⟨u', H6, happ, accu6, kp6, low6⟩ := (accu5.push low5 (ob := .row [.int .i64 k2, .str t2, vInts m2, vData l2, .int .i64 p2] 0 true none)).more (e := 30) (bs := 80) (m := 1) (ys := [.int .i64 k2, .str t2, vInts m2, vData l2, .int .i64 p2]) (by rw [h_n]; omega) low5.push (by decide) rfl five_flat (by omega)
        have accv6 := (accu5.push low5).other (accv5.push low5) (by decide) kp6
        have m0 : ¬ k0 = H5.n := by omega
        have m1 : ¬ H.n = H5.n := by omega
        have m3 : ¬ H.n + 1 = H5.n := by omega
        have m4 : ¬ H.n + 2 = H5.n := by omega
        have gk6 := (accu5.push low5).row (by decide) kp6 (j := k0) (by rw [h_get, if_neg m0]; exact gk5)
        have ge0 := (accu5.push low5).row (by decide) kp6 (j := H.n) (by rw [h_get, if_neg m1]; exact gd0)
        have ge1 := (accu5.push low5).row (by decide) kp6 (j := H.n + 1) (by rw [h_get, if_neg m3]; exact gd1)
        have ge2 := (accu5.push low5).row (by decide) kp6 (j := H.n + 2) (by rw [h_get, if_neg m4]; exact gd2)
        have fu6 := accu6.flat
        have z4 : ¬ H.n = H.n + 2 := by omega
        have z5 : ¬ H.n + 1 = H.n + 2 := by omega
        simp -implicitDefEqProofs only [↓v_lenS, SB, POp.val, AOp.val, WOp.val, Lite.bin, intBin, strBin, eqv, eqMany, eq1, AV.asBool, AV.asInt, AV.asNat, AV.asPtr, AV.asStr, resVals, ResV.val, oneOr, wants, skipped, fillAt, putAt, capOf, optNat, bnd, Nat.reduceBEq, reduceIte, Nat.reduceAdd, Nat.reduceLeDiff, Nat.reduceEqDiff, Nat.reduceSub, Nat.reduceMul, Nat.reduceDiv, SOper.again, same, sameBlk, sameCap, Nat.reduceBneDiff, s_draw2, s_pair, k_pair, asunder, SOper.into, Bool.not_false, Bool.not_true, CL, DS, r1, r2, r3, r6, r7, r8, gd2, k_taken, happ, ge2, fu6, hw]
        refine hK _ _ ⟨u', ?_, ?_, low6.put (low6.lt ge2), ?_, ?_⟩
        · rw [hmt]
          simp only []
          rw [flat_snoc, D.cells_mk]
          exact accu6.put (by decide) ge2
        · exact accv6.put (by decide) ge2
        · have q1 : HKeep (only k0) H H6 := (accu5.push low5).keeps ((kp4.trans kp5).pushed low) low kp6
          exact q1.own low (by omega) (low6.lt ge2)
        · rw [hmt]
          simp -implicitDefEqProofs only [↓v_lenS, SB, POp.val, AOp.val, WOp.val, Lite.bin, intBin, strBin, eqv, eqMany, eq1, AV.asBool, AV.asInt, AV.asNat, AV.asPtr, AV.asStr, resVals, ResV.val, oneOr, wants, skipped, fillAt, putAt, capOf, optNat, bnd, Nat.reduceBEq, reduceIte, Nat.reduceAdd, Nat.reduceLeDiff, Nat.reduceEqDiff, Nat.reduceSub, Nat.reduceMul, Nat.reduceDiv, SOper.again, same, sameBlk, sameCap, Nat.reduceBneDiff, s_draw2, s_pair, k_pair, asunder, SOper.into, Bool.not_false, Bool.not_true, r1, r2, r3, r6, r7, n2, z4, z5, ge0, ge1, gk6]
      · rintro fr H4 K2 ⟨u, accu, accv, low4, kp4, gk4, r1, r2, r3, r6, r7, r8, gc0, gc1, gc2⟩ hKe2 hKr2
        rw [List.take_length] at accu gk4
        have fu := accu.flat
        have fw := accv.flat
        have hml := markeds_len ns l (a1 + 1)
        generalize (D.markeds ns l (a1 + 1)).2 = b at *
        generalize (D.markeds ns l (a1 + 1)).1 = dl at *
        have z4 : ¬ H.n + 1 = H.n + 2 := by omega
        have accv7 := accv.put (k := H.n + 1) (by decide) gc1 (ob := .row [.int .i64 k, .str t, v, u, .int .i64 a] 0 false (some 30))
        have accu7 := accu.put (k := H.n + 1) (by decide) gc1 (ob := .row [.int .i64 k, .str t, v, u, .int .i64 a] 0 false (some 30))
        have kp7 := kp4.own low (j := H.n + 1) (by omega) (low4.lt gc1) (ob := .row [.int .i64 k, .str t, v, u, .int .i64 a] 0 false (some 30))
        obtain ⟨H8, hsh1, kp8⟩ := accv7.shut (d := 63) (by decide) (Still.flat int1_still _)
        have accu8 := accv7.other accu7 (by decide) kp8
        obtain ⟨H9, hsh2, kp9⟩ := accu8.shut (d := 63) (by decide) (Still.flat D.still _)
        rw [L_vInts] at hsh1
        rw [← hml, L_vData] at hsh2
        have gk7 : (H4.put (H.n + 1) (.row [.int .i64 k, .str t, v, u, .int .i64 a] 0 false (some 30))).t.get k0 = some (.row [.int .i64 b] 0 false ty) := by rw [h_gput, if_neg n1]; exact gk4
        have gk9 := accu8.row (by decide) kp9 (accv7.row (by decide) kp8 gk7)
        have kpf := accu8.keeps (accv7.keeps kp7 low kp8) low kp9
        simp -implicitDefEqProofs only [c16_l1, ↓v_lenS, SB, POp.val, AOp.val, WOp.val, Lite.bin, intBin, strBin, eqv, eqMany, eq1, AV.asBool, AV.asInt, AV.asNat, AV.asPtr, AV.asStr, resVals, ResV.val, oneOr, wants, skipped, fillAt, putAt, capOf, optNat, bnd, Nat.reduceBEq, reduceIte, Nat.reduceAdd, Nat.reduceLeDiff, Nat.reduceEqDiff, Nat.reduceSub, Nat.reduceMul, Nat.reduceDiv, SOper.again, same, sameBlk, sameCap, Nat.reduceBneDiff, s_draw2, s_pair, k_pair, asunder, SOper.into, Bool.not_false, Bool.not_true, CL, DS, r1, r2, r3, r6, r7, r8, gc0, gc1, gc2, Int.lt_irrefl, hKe2, gives_ret, fu, fw]
        refine ⟨.agg [.int .i64 k, .str t, vInts marks, vData dl, .int .i64 a], H9, ?_, rfl, gk9, kpf⟩
        simp -implicitDefEqProofs only [↓v_lenS, SB, POp.val, AOp.val, WOp.val, Lite.bin, intBin, strBin, eqv, eqMany, eq1, AV.asBool, AV.asInt, AV.asNat, AV.asPtr, AV.asStr, resVals, ResV.val, oneOr, wants, skipped, fillAt, putAt, capOf, optNat, bnd, Nat.reduceBEq, reduceIte, Nat.reduceAdd, Nat.reduceLeDiff, Nat.reduceEqDiff, Nat.reduceSub, Nat.reduceMul, Nat.reduceDiv, SOper.again, same, sameBlk, sameCap, Nat.reduceBneDiff, s_draw2, s_pair, k_pair, asunder, SOper.into, Bool.not_false, Bool.not_true, hsh1, hsh2]
      · refine ⟨.nils, Acc.nil, acc3, low2.put (low2.lt gk), ?_, ?_⟩
        · exact kp.trans (HKeep.put (X := only k0) (fun _ => rfl) (low2.lt gk))
        · simp -implicitDefEqProofs only [↓v_lenS, SB, POp.val, AOp.val, WOp.val, Lite.bin, intBin, strBin, eqv, eqMany, eq1, AV.asBool, AV.asInt, AV.asNat, AV.asPtr, AV.asStr, resVals, ResV.val, oneOr, wants, skipped, fillAt, putAt, capOf, optNat, bnd, Nat.reduceBEq, reduceIte, Nat.reduceAdd, Nat.reduceLeDiff, Nat.reduceEqDiff, Nat.reduceSub, Nat.reduceMul, Nat.reduceDiv, SOper.again, same, sameBlk, sameCap, Nat.reduceBneDiff, s_draw2, s_pair, k_pair, asunder, SOper.into, Bool.not_false, Bool.not_true, List.take_zero, D.markeds, f1, f2, f3, f6, f7, z1, z2, z3, gb0, gb1, gb2]
          rfl
    rcases hM4 with hk | h4 | hno | ⟨x, hx, hx3⟩
    · have k3 : (k == 3) = false := by simpa using hk
      simp -implicitDefEqProofs only [c16_l0, ↓v_lenS, SB, POp.val, AOp.val, WOp.val, Lite.bin, intBin, strBin, eqv, eqMany, eq1, AV.asBool, AV.asInt, AV.asNat, AV.asPtr, AV.asStr, resVals, ResV.val, oneOr, wants, skipped, fillAt, putAt, capOf, optNat, bnd, Nat.reduceBEq, reduceIte, Nat.reduceAdd, Nat.reduceLeDiff, Nat.reduceEqDiff, Nat.reduceSub, Nat.reduceMul, Nat.reduceDiv, SOper.again, same, sameBlk, sameCap, Nat.reduceBneDiff, s_draw2, s_pair, k_pair, asunder, SOper.into, Bool.not_false, Bool.not_true, CL, DS, h1, h2, h3, h6, h7, gk, gb0, gb1, gb2, k3, len_vIntsF, lv]
      refine rest _ ?_ ?_ ?_ ?_ ?_ <;> simp -implicitDefEqProofs only [↓v_lenS, SB, POp.val, AOp.val, WOp.val, Lite.bin, intBin, strBin, eqv, eqMany, eq1, AV.asBool, AV.asInt, AV.asNat, AV.asPtr, AV.asStr, resVals, ResV.val, oneOr, wants, skipped, fillAt, putAt, capOf, optNat, bnd, Nat.reduceBEq, reduceIte, Nat.reduceAdd, Nat.reduceLeDiff, Nat.reduceEqDiff, Nat.reduceSub, Nat.reduceMul, Nat.reduceDiv, SOper.again, same, sameBlk, sameCap, Nat.reduceBneDiff, s_draw2, s_pair, k_pair, asunder, SOper.into, Bool.not_false, Bool.not_true, h1, h2, h3, h6, h7]
    · by_cases k3 : (k == 3) = true
      · have hl4 : ¬ ((marks.length : Nat) : Int) < 4 := by omega
        by_cases hlt : ((a + marks.length : Nat) : Int) < (ns.length : Int)
        · have hlt' : a + marks.length < ns.length := by omega
          obtain ⟨x, hx⟩ : ∃ x, ns[a + marks.length]? = some x := ⟨ns[a + marks.length], List.getElem?_eq_getElem hlt'⟩
          have e3 := w3 x (List.mem_of_getElem? hx)
          by_cases hx3 : within x 3 > 0
          · simp -implicitDefEqProofs only [c16_l0, ↓v_lenS, SB, POp.val, AOp.val, WOp.val, Lite.bin, intBin, strBin, eqv, eqMany, eq1, AV.asBool, AV.asInt, AV.asNat, AV.asPtr, AV.asStr, resVals, ResV.val, oneOr, wants, skipped, fillAt, putAt, capOf, optNat, bnd, Nat.reduceBEq, reduceIte, Nat.reduceAdd, Nat.reduceLeDiff, Nat.reduceEqDiff, Nat.reduceSub, Nat.reduceMul, Nat.reduceDiv, SOper.again, same, sameBlk, sameCap, Nat.reduceBneDiff, s_draw2, s_pair, k_pair, asunder, SOper.into, Bool.not_false, Bool.not_true, CL, DS, h1, h2, h3, h6, h7, gk, gb0, gb1, gb2, k3, len_vIntsF, lv, hlt, iaddr_vIntsF hx, e3, hx3, hl4]
            refine rest _ ?_ ?_ ?_ ?_ ?_ <;> simp -implicitDefEqProofs only [↓v_lenS, SB, POp.val, AOp.val, WOp.val, Lite.bin, intBin, strBin, eqv, eqMany, eq1, AV.asBool, AV.asInt, AV.asNat, AV.asPtr, AV.asStr, resVals, ResV.val, oneOr, wants, skipped, fillAt, putAt, capOf, optNat, bnd, Nat.reduceBEq, reduceIte, Nat.reduceAdd, Nat.reduceLeDiff, Nat.reduceEqDiff, Nat.reduceSub, Nat.reduceMul, Nat.reduceDiv, SOper.again, same, sameBlk, sameCap, Nat.reduceBneDiff, s_draw2, s_pair, k_pair, asunder, SOper.into, Bool.not_false, Bool.not_true, h1, h2, h3, h6, h7]
          · simp -implicitDefEqProofs only [c16_l0, ↓v_lenS, SB, POp.val, AOp.val, WOp.val, Lite.bin, intBin, strBin, eqv, eqMany, eq1, AV.asBool, AV.asInt, AV.asNat, AV.asPtr, AV.asStr, resVals, ResV.val, oneOr, wants, skipped, fillAt, putAt, capOf, optNat, bnd, Nat.reduceBEq, reduceIte, Nat.reduceAdd, Nat.reduceLeDiff, Nat.reduceEqDiff, Nat.reduceSub, Nat.reduceMul, Nat.reduceDiv, SOper.again, same, sameBlk, sameCap, Nat.reduceBneDiff, s_draw2, s_pair, k_pair, asunder, SOper.into, Bool.not_false, Bool.not_true, CL, DS, h1, h2, h3, h6, h7, gk, gb0, gb1, gb2, k3, len_vIntsF, lv, hlt, iaddr_vIntsF hx, e3, hx3, hl4]
            refine rest _ ?_ ?_ ?_ ?_ ?_ <;> simp -implicitDefEqProofs only [↓v_lenS, SB, POp.val, AOp.val, WOp.val, Lite.bin, intBin, strBin, eqv, eqMany, eq1, AV.asBool, AV.asInt, AV.asNat, AV.asPtr, AV.asStr, resVals, ResV.val, oneOr, wants, skipped, fillAt, putAt, capOf, optNat, bnd, Nat.reduceBEq, reduceIte, Nat.reduceAdd, Nat.reduceLeDiff, Nat.reduceEqDiff, Nat.reduceSub, Nat.reduceMul, Nat.reduceDiv, SOper.again, same, sameBlk, sameCap, Nat.reduceBneDiff, s_draw2, s_pair, k_pair, asunder, SOper.into, Bool.not_false, Bool.not_true, h1, h2, h3, h6, h7]
        · simp -implicitDefEqProofs only [c16_l0, ↓v_lenS, SB, POp.val, AOp.val, WOp.val, Lite.bin, intBin, strBin, eqv, eqMany, eq1, AV.asBool, AV.asInt, AV.asNat, AV.asPtr, AV.asStr, resVals, ResV.val, oneOr, wants, skipped, fillAt, putAt, capOf, optNat, bnd, Nat.reduceBEq, reduceIte, Nat.reduceAdd, Nat.reduceLeDiff, Nat.reduceEqDiff, Nat.reduceSub, Nat.reduceMul, Nat.reduceDiv, SOper.again, same, sameBlk, sameCap, Nat.reduceBneDiff, s_draw2, s_pair, k_pair, asunder, SOper.into, Bool.not_false, Bool.not_true, CL, DS, h1, h2, h3, h6, h7, gk, gb0, gb1, gb2, k3, len_vIntsF, lv, hlt]
          refine rest _ ?_ ?_ ?_ ?_ ?_ <;> simp -implicitDefEqProofs only [↓v_lenS, SB, POp.val, AOp.val, WOp.val, Lite.bin, intBin, strBin, eqv, eqMany, eq1, AV.asBool, AV.asInt, AV.asNat, AV.asPtr, AV.asStr, resVals, ResV.val, oneOr, wants, skipped, fillAt, putAt, capOf, optNat, bnd, Nat.reduceBEq, reduceIte, Nat.reduceAdd, Nat.reduceLeDiff, Nat.reduceEqDiff, Nat.reduceSub, Nat.reduceMul, Nat.reduceDiv, SOper.again, same, sameBlk, sameCap, Nat.reduceBneDiff, s_draw2, s_pair, k_pair, asunder, SOper.into, Bool.not_false, Bool.not_true, h1, h2, h3, h6, h7]
      · have k3 : (k == 3) = false := by simpa using k3
        simp -implicitDefEqProofs only [c16_l0, ↓v_lenS, SB, POp.val, AOp.val, WOp.val, Lite.bin, intBin, strBin, eqv, eqMany, eq1, AV.asBool, AV.asInt, AV.asNat, AV.asPtr, AV.asStr, resVals, ResV.val, oneOr, wants, skipped, fillAt, putAt, capOf, optNat, bnd, Nat.reduceBEq, reduceIte, Nat.reduceAdd, Nat.reduceLeDiff, Nat.reduceEqDiff, Nat.reduceSub, Nat.reduceMul, Nat.reduceDiv, SOper.again, same, sameBlk, sameCap, Nat.reduceBneDiff, s_draw2, s_pair, k_pair, asunder, SOper.into, Bool.not_false, Bool.not_true, CL, DS, h1, h2, h3, h6, h7, gk, gb0, gb1, gb2, k3, len_vIntsF, lv]
        refine rest _ ?_ ?_ ?_ ?_ ?_ <;> simp -implicitDefEqProofs only [↓v_lenS, SB, POp.val, AOp.val, WOp.val, Lite.bin, intBin, strBin, eqv, eqMany, eq1, AV.asBool, AV.asInt, AV.asNat, AV.asPtr, AV.asStr, resVals, ResV.val, oneOr, wants, skipped, fillAt, putAt, capOf, optNat, bnd, Nat.reduceBEq, reduceIte, Nat.reduceAdd, Nat.reduceLeDiff, Nat.reduceEqDiff, Nat.reduceSub, Nat.reduceMul, Nat.reduceDiv, SOper.again, same, sameBlk, sameCap, Nat.reduceBneDiff, s_draw2, s_pair, k_pair, asunder, SOper.into, Bool.not_false, Bool.not_true, h1, h2, h3, h6, h7]
    · have hge2 : ns.length ≤ a + marks.length := by
        rcases Nat.lt_or_ge (a + marks.length) ns.length with h | h
        · rw [List.getElem?_eq_getElem h] at hno; cases hno
        · exact h
      have hlt : ¬ ((a + marks.length : Nat) : Int) < (ns.length : Int) := by omega
      cases k3 : (k == 3) with
      | true =>
        simp -implicitDefEqProofs only [c16_l0, ↓v_lenS, SB, POp.val, AOp.val, WOp.val, Lite.bin, intBin, strBin, eqv, eqMany, eq1, AV.asBool, AV.asInt, AV.asNat, AV.asPtr, AV.asStr, resVals, ResV.val, oneOr, wants, skipped, fillAt, putAt, capOf, optNat, bnd, Nat.reduceBEq, reduceIte, Nat.reduceAdd, Nat.reduceLeDiff, Nat.reduceEqDiff, Nat.reduceSub, Nat.reduceMul, Nat.reduceDiv, SOper.again, same, sameBlk, sameCap, Nat.reduceBneDiff, s_draw2, s_pair, k_pair, asunder, SOper.into, Bool.not_false, Bool.not_true, CL, DS, h1, h2, h3, h6, h7, gk, gb0, gb1, gb2, k3, len_vIntsF, lv, hlt]
        refine rest _ ?_ ?_ ?_ ?_ ?_ <;> simp -implicitDefEqProofs only [↓v_lenS, SB, POp.val, AOp.val, WOp.val, Lite.bin, intBin, strBin, eqv, eqMany, eq1, AV.asBool, AV.asInt, AV.asNat, AV.asPtr, AV.asStr, resVals, ResV.val, oneOr, wants, skipped, fillAt, putAt, capOf, optNat, bnd, Nat.reduceBEq, reduceIte, Nat.reduceAdd, Nat.reduceLeDiff, Nat.reduceEqDiff, Nat.reduceSub, Nat.reduceMul, Nat.reduceDiv, SOper.again, same, sameBlk, sameCap, Nat.reduceBneDiff, s_draw2, s_pair, k_pair, asunder, SOper.into, Bool.not_false, Bool.not_true, h1, h2, h3, h6, h7]
      | false =>
        simp -implicitDefEqProofs only [c16_l0, ↓v_lenS, SB, POp.val, AOp.val, WOp.val, Lite.bin, intBin, strBin, eqv, eqMany, eq1, AV.asBool, AV.asInt, AV.asNat, AV.asPtr, AV.asStr, resVals, ResV.val, oneOr, wants, skipped, fillAt, putAt, capOf, optNat, bnd, Nat.reduceBEq, reduceIte, Nat.reduceAdd, Nat.reduceLeDiff, Nat.reduceEqDiff, Nat.reduceSub, Nat.reduceMul, Nat.reduceDiv, SOper.again, same, sameBlk, sameCap, Nat.reduceBneDiff, s_draw2, s_pair, k_pair, asunder, SOper.into, Bool.not_false, Bool.not_true, CL, DS, h1, h2, h3, h6, h7, gk, gb0, gb1, gb2, k3, len_vIntsF, lv, hlt]
        refine rest _ ?_ ?_ ?_ ?_ ?_ <;> simp -implicitDefEqProofs only [↓v_lenS, SB, POp.val, AOp.val, WOp.val, Lite.bin, intBin, strBin, eqv, eqMany, eq1, AV.asBool, AV.asInt, AV.asNat, AV.asPtr, AV.asStr, resVals, ResV.val, oneOr, wants, skipped, fillAt, putAt, capOf, optNat, bnd, Nat.reduceBEq, reduceIte, Nat.reduceAdd, Nat.reduceLeDiff, Nat.reduceEqDiff, Nat.reduceSub, Nat.reduceMul, Nat.reduceDiv, SOper.again, same, sameBlk, sameCap, Nat.reduceBneDiff, s_draw2, s_pair, k_pair, asunder, SOper.into, Bool.not_false, Bool.not_true, h1, h2, h3, h6, h7]
    · have hlt' := (List.getElem?_eq_some_iff.1 hx).1
      have hlt : ((a + marks.length : Nat) : Int) < (ns.length : Int) := by omega
      have e3 := w3 x (List.mem_of_getElem? hx)
      cases k3 : (k == 3) with
      | true =>
        simp -implicitDefEqProofs only [c16_l0, ↓v_lenS, SB, POp.val, AOp.val, WOp.val, Lite.bin, intBin, strBin, eqv, eqMany, eq1, AV.asBool, AV.asInt, AV.asNat, AV.asPtr, AV.asStr, resVals, ResV.val, oneOr, wants, skipped, fillAt, putAt, capOf, optNat, bnd, Nat.reduceBEq, reduceIte, Nat.reduceAdd, Nat.reduceLeDiff, Nat.reduceEqDiff, Nat.reduceSub, Nat.reduceMul, Nat.reduceDiv, SOper.again, same, sameBlk, sameCap, Nat.reduceBneDiff, s_draw2, s_pair, k_pair, asunder, SOper.into, Bool.not_false, Bool.not_true, CL, DS, h1, h2, h3, h6, h7, gk, gb0, gb1, gb2, k3, len_vIntsF, lv, hlt, iaddr_vIntsF hx, e3, hx3]
        refine rest _ ?_ ?_ ?_ ?_ ?_ <;> simp -implicitDefEqProofs only [↓v_lenS, SB, POp.val, AOp.val, WOp.val, Lite.bin, intBin, strBin, eqv, eqMany, eq1, AV.asBool, AV.asInt, AV.asNat, AV.asPtr, AV.asStr, resVals, ResV.val, oneOr, wants, skipped, fillAt, putAt, capOf, optNat, bnd, Nat.reduceBEq, reduceIte, Nat.reduceAdd, Nat.reduceLeDiff, Nat.reduceEqDiff, Nat.reduceSub, Nat.reduceMul, Nat.reduceDiv, SOper.again, same, sameBlk, sameCap, Nat.reduceBneDiff, s_draw2, s_pair, k_pair, asunder, SOper.into, Bool.not_false, Bool.not_true, h1, h2, h3, h6, h7]
      | false =>
        simp -implicitDefEqProofs only [c16_l0, ↓v_lenS, SB, POp.val, AOp.val, WOp.val, Lite.bin, intBin, strBin, eqv, eqMany, eq1, AV.asBool, AV.asInt, AV.asNat, AV.asPtr, AV.asStr, resVals, ResV.val, oneOr, wants, skipped, fillAt, putAt, capOf, optNat, bnd, Nat.reduceBEq, reduceIte, Nat.reduceAdd, Nat.reduceLeDiff, Nat.reduceEqDiff, Nat.reduceSub, Nat.reduceMul, Nat.reduceDiv, SOper.again, same, sameBlk, sameCap, Nat.reduceBneDiff, s_draw2, s_pair, k_pair, asunder, SOper.into, Bool.not_false, Bool.not_true, CL, DS, h1, h2, h3, h6, h7, gk, gb0, gb1, gb2, k3, len_vIntsF, lv, hlt]
        refine rest _ ?_ ?_ ?_ ?_ ?_ <;> simp -implicitDefEqProofs only [↓v_lenS, SB, POp.val, AOp.val, WOp.val, Lite.bin, intBin, strBin, eqv, eqMany, eq1, AV.asBool, AV.asInt, AV.asNat, AV.asPtr, AV.asStr, resVals, ResV.val, oneOr, wants, skipped, fillAt, putAt, capOf, optNat, bnd, Nat.reduceBEq, reduceIte, Nat.reduceAdd, Nat.reduceLeDiff, Nat.reduceEqDiff, Nat.reduceSub, Nat.reduceMul, Nat.reduceDiv, SOper.again, same, sameBlk, sameCap, Nat.reduceBneDiff, s_draw2, s_pair, k_pair, asunder, SOper.into, Bool.not_false, Bool.not_true, h1, h2, h3, h6, h7]
  · have q1 : HKeep (only k0) H (((H.push (.row [.int .i64 k, .str t, vInts ms, vData l, .int .i64 p] 0 false (some 30))).push (.row [.int .i64 0, .str [], .nils, .nils, .int .i64 0] 0 false (some 30))).push (.row [.int .i64 0, .str [], .nils, .nils, .int .i64 0] 0 false (some 30))) :=
      ((HKeep.push low).pushed low).pushed low
    refine ⟨.nils, Acc.nil, (low.push.push.push).put (j := H.n + 2) (by simp [h_n]), q1.own low (j := H.n + 2) (by omega) (by simp [h_n]), by simp only [h_nput, h_n]; omega, ?_⟩
    simp -implicitDefEqProofs only [↓v_lenS, SB, POp.val, AOp.val, WOp.val, Lite.bin, intBin, strBin, eqv, eqMany, eq1, AV.asBool, AV.asInt, AV.asNat, AV.asPtr, AV.asStr, resVals, ResV.val, oneOr, wants, skipped, fillAt, putAt, capOf, optNat, bnd, Nat.reduceBEq, reduceIte, Nat.reduceAdd, Nat.reduceLeDiff, Nat.reduceEqDiff, Nat.reduceSub, Nat.reduceMul, Nat.reduceDiv, SOper.again, same, sameBlk, sameCap, Nat.reduceBneDiff, s_draw2, s_pair, k_pair, asunder, SOper.into, Bool.not_false, Bool.not_true, n0, n1, n2, g0]

end Go.Lite
