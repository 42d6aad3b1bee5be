/-
  datum.Text: a builder, what is written on it; a datum's text.
-/
import Derived.Test.YtibjdfajafilhaaEData
namespace Go.Lite
open Go Go.Proofs
set_option maxRecDepth 100000
set_option linter.unusedSimpArgs false
set_option linter.unusedVariables false

/-- in block k a builder that holds the bytes s -/
def Bld (H : Heap) (k : Nat) (s : List Nat) : Prop :=
  ∃ a bv, (a = .nilp ∨ a = .ptr (.new k) 0) ∧ H.t.get k = some (.row [a, bv] 0 false (some 54)) ∧ Acc 0 H 5 1 s.length (bytes s) bv

theorem Bld.push {H : Heap} {k : Nat} {s : List Nat} (h : Bld H k s) (l : HLow H) {o : Obj} : Bld (H.push o) k s := by
  obtain ⟨a, bv, ha, hg, hc⟩ := h
  exact ⟨a, bv, ha, by rw [h_get, if_neg (by have := l k _ hg; omega)]; exact hg, hc.push l⟩

theorem Bld.put {H : Heap} {k j : Nat} {s : List Nat} (h : Bld H k s) (hj : k ≠ j) {cs : List AV} {fz : Bool} {ty : Option Nat} (hk : H.t.get j = some (.row cs 0 fz ty)) {o : Obj} : Bld (H.put j o) k s := by
  obtain ⟨a, bv, ha, hg, hc⟩ := h
  exact ⟨a, bv, ha, by rw [h_gput, if_neg hj]; exact hg, hc.put (by decide) hk⟩

theorem Bld.lt {H : Heap} {k : Nat} {s : List Nat} (h : Bld H k s) (l : HLow H) : k < H.n := by
  obtain ⟨a, bv, ha, hg, hc⟩ := h
  exact l k _ hg

/-- WriteString -/
theorem run37 {n : Nat} {H : Heap} {k : Nat} {s t : List Nat} (hb : Bld H k s) (low : HLow H) (hlen : s.length + t.length ≤ 1099511627776) :
    Gives (callN P2 (n + 2) 37 [.ptr (.new k) 0, .str t] H) fun _ H' => Bld H' k (s ++ t) ∧ HKeep (firmBut k) H H' := by
  rw [callN_code (P := P2) (sf := c37) rfl (code37 _ _) rfl rfl]
  obtain ⟨a, bv, ha, hg, hc⟩ := hb
  have hk : k < H.n := low k _ hg
  have fb := hc.flat
  have fin : ∀ H1 : Heap, H1.t.get k = some (.row [.ptr (.new k) 0, bv] 0 false (some 54)) → HLow H1 → HKeep (firmBut k) H H1 → Acc 0 H1 5 1 s.length (bytes s) bv →
      ∃ v' H2, appendOf 5 1 1 H1 bv (t.length, bytes t) = some (v', H2) ∧ H2.t.get k = some (.row [.ptr (.new k) 0, bv] 0 false (some 54)) ∧ v'.flat = true ∧ Bld (H2.put k (.row [.ptr (.new k) 0, v'] 0 false (some 54))) k (s ++ t) ∧ HKeep (firmBut k) H (H2.put k (.row [.ptr (.new k) 0, v'] 0 false (some 54))) := by
    intro H1 hg1 low1 kp1 hc1
    obtain ⟨v', H2, happ, hc2, kp2, low2⟩ := hc1.more (m := t.length) (bs := 1) (ys := bytes t) (Nat.zero_le _) low1 (by decide) (by simp [bytes_len]) (bytes_flat t) (by omega)
    have hg2 := hc1.row (by decide) kp2 hg1
    refine ⟨v', H2, happ, hg2, hc2.flat, ⟨_, v', .inr rfl, by rw [h_gput, if_pos rfl], ?_⟩, ?_⟩
    · rw [bytes_append, List.length_append]
      exact hc2.put (by decide) hg2
    · have kp3 : HKeep (firmBut k) H H2 := kp1.trans ((hc1.firm (by decide) kp2).mono fun j o _ h => .inr h)
      exact kp3.trans (HKeep.put (X := firmBut k) (fun _ => .inl rfl) (low2 k _ hg2))
  rcases ha with rfl | rfl
  · obtain ⟨v', H2, e1, e2, e3, e4, e5⟩ := fin (H.put k (.row [.ptr (.new k) 0, bv] 0 false (some 54))) (by rw [h_gput, if_pos rfl]) (low.put hk) (HKeep.put (X := firmBut k) (fun _ => .inl rfl) hk) (hc.put (by decide) hg)
    simp -implicitDefEqProofs only [c37, ↓v_lenS, SB, POp.val, AOp.val, WOp.val, Lite.bin, intBin, strBin, eqv, eqMany, eq1, AV.asBool, AV.asInt, AV.asNat, AV.asPtr, AV.asStr, resVals, ResV.val, oneOr, wants, skipped, fillAt, putAt, capOf, optNat, bnd, Nat.reduceBEq, reduceIte, Nat.reduceAdd, Nat.reduceLeDiff, Nat.reduceEqDiff, Nat.reduceSub, Nat.reduceMul, Nat.reduceDiv, SOper.again, same, sameBlk, sameCap, Nat.reduceBneDiff, s_draw2, s_pair, k_pair, asunder, SOper.into, Bool.not_false, Bool.not_true, CL, gives_ret, callN_own (P := P2) (f := 38) (g := ownCheck lies2) rfl, ownCheck, hg, lies2, Nat.reduceBEq, beq_lit, taken_str, e1, e2, e3]
    exact ⟨e4, e5⟩
  · obtain ⟨v', H2, e1, e2, e3, e4, e5⟩ := fin H hg low HKeep.refl hc
    simp -implicitDefEqProofs only [c37, ↓v_lenS, SB, POp.val, AOp.val, WOp.val, Lite.bin, intBin, strBin, eqv, eqMany, eq1, AV.asBool, AV.asInt, AV.asNat, AV.asPtr, AV.asStr, resVals, ResV.val, oneOr, wants, skipped, fillAt, putAt, capOf, optNat, bnd, Nat.reduceBEq, reduceIte, Nat.reduceAdd, Nat.reduceLeDiff, Nat.reduceEqDiff, Nat.reduceSub, Nat.reduceMul, Nat.reduceDiv, SOper.again, same, sameBlk, sameCap, Nat.reduceBneDiff, s_draw2, s_pair, k_pair, asunder, SOper.into, Bool.not_false, Bool.not_true, CL, gives_ret, callN_own (P := P2) (f := 38) (g := ownCheck lies2) rfl, ownCheck, hg, lies2, Nat.reduceBEq, beq_lit, taken_str, e1, e2, e3]
    exact ⟨e4, e5⟩

/-- String -/
theorem run32 {n : Nat} {H : Heap} {k : Nat} {s : List Nat} (hb : Bld H k s) (h256 : ∀ c ∈ s, c < 256) (hlen : s.length ≤ 1099511627776) :
    Gives (callN P2 (n + 1) 32 [.ptr (.new k) 0] H) fun v H' => v = .str s := by
  rw [callN_own (P := P2) (g := ownString) rfl]
  obtain ⟨a, bv, ha, hg, hc⟩ := hb
  rcases hc with ⟨h0, h1, rfl⟩ | ⟨h0, h1, j, rfl, hgj⟩
  · obtain rfl := List.eq_nil_of_length_eq_zero h0
    simp -implicitDefEqProofs only [ownString, ↓v_lenS, SB, POp.val, AOp.val, WOp.val, Lite.bin, intBin, strBin, eqv, eqMany, eq1, AV.asBool, AV.asInt, AV.asNat, AV.asPtr, AV.asStr, resVals, ResV.val, oneOr, wants, skipped, fillAt, putAt, capOf, optNat, bnd, Nat.reduceBEq, reduceIte, Nat.reduceAdd, Nat.reduceLeDiff, Nat.reduceEqDiff, Nat.reduceSub, Nat.reduceMul, Nat.reduceDiv, SOper.again, same, sameBlk, sameCap, Nat.reduceBneDiff, s_draw2, s_pair, k_pair, asunder, SOper.into, Bool.not_false, Bool.not_true, hg, gives_ret]
  · cases s with
    | nil => exact absurd rfl h0
    | cons c s =>
      have e1 : (bytes (c :: s)).take (s.length + 1) = bytes (c :: s) := List.take_of_length_le (by simp [bytes])
      have e2 := bytesOf_bytes (c :: s) h256
      simp -implicitDefEqProofs only [ownString, ↓v_lenS, SB, POp.val, AOp.val, WOp.val, Lite.bin, intBin, strBin, eqv, eqMany, eq1, AV.asBool, AV.asInt, AV.asNat, AV.asPtr, AV.asStr, resVals, ResV.val, oneOr, wants, skipped, fillAt, putAt, capOf, optNat, bnd, Nat.reduceBEq, reduceIte, Nat.reduceAdd, Nat.reduceLeDiff, Nat.reduceEqDiff, Nat.reduceSub, Nat.reduceMul, Nat.reduceDiv, SOper.again, same, sameBlk, sameCap, Nat.reduceBneDiff, s_draw2, s_pair, k_pair, asunder, SOper.into, Bool.not_false, Bool.not_true, hg, hgj, gives_ret, e1, e2]
      rw [if_pos (by simp [bytes] at hlen ⊢; omega)]
      simp only [Option.map_some, gives_ret]

mutual
/-- a datum's text -/
def D.txt : D → List Nat
  | .mk k t _ l _ => if k = 4 then [40] ++ D.txts l ++ [41] else t
def D.txts : List D → List Nat
  | [] => []
  | d :: ds => d.txt ++ D.tails ds
def D.tails : List D → List Nat
  | [] => []
  | d :: ds => [32] ++ d.txt ++ D.tails ds
end

mutual
/-- its bytes are bytes -/
def D.ok : D → Prop
  | .mk _ t _ l _ => (∀ c ∈ t, c < 256) ∧ D.oks l
def D.oks : List D → Prop
  | [] => True
  | d :: ds => d.ok ∧ D.oks ds
end

theorem D.oks_iff (l : List D) : D.oks l ↔ ∀ d ∈ l, d.ok := by
  induction l with
  | nil => simp [D.oks]
  | cons d l ih => simp [D.oks, ih]

theorem tails_append (a b : List D) : D.tails (a ++ b) = D.tails a ++ D.tails b := by
  induction a with
  | nil => simp [D.tails]
  | cons e l ih => simp only [List.cons_append, D.tails, ih, List.append_assoc]

theorem txts_snoc (l : List D) (d : D) : D.txts (l ++ [d]) = D.txts l ++ (if l = [] then [] else [32]) ++ d.txt := by
  cases l with
  | nil => simp [D.txts, D.tails]
  | cons e l => simp [D.txts, D.tails, tails_append]

theorem txts_take {l : List D} {i : Nat} {d : D} (h : l[i]? = some d) : D.txts (l.take (i + 1)) = D.txts (l.take i) ++ (if i = 0 then [] else [32]) ++ d.txt := by
  rw [List.take_add_one, h, Option.toList_some, txts_snoc]
  have hi := (List.getElem?_eq_some_iff.1 h).1
  cases i with
  | zero => simp
  | succ i =>
    have : l ≠ [] := fun e => by subst e; simp at hi
    simp [this]

theorem txts_take_len (l : List D) (i : Nat) : (D.txts (l.take i)).length ≤ (D.txts l).length := by
  cases l with
  | nil => simp
  | cons e l =>
    cases i with
    | zero => simp [D.txts]
    | succ i =>
      simp only [List.take_succ_cons, D.txts, List.length_append]
      have : (D.tails (l.take i)).length ≤ (D.tails l).length := by
        conv => rhs; rw [← List.take_append_drop i l, tails_append, List.length_append]
        omega
      omega

theorem len_le_txts (l : List D) : l.length ≤ (D.txts l).length + 1 := by
  have h : ∀ l : List D, l.length ≤ (D.tails l).length := fun l => by
    induction l with
    | nil => simp
    | cons e l ih => simp only [D.tails, List.length_cons, List.length_append, List.length_nil]; omega
  cases l with
  | nil => simp
  | cons e l =>
    have := h l
    simp only [D.txts, List.length_cons, List.length_append]; omega

theorem txt256 : ∀ d : D, d.ok → ∀ c ∈ d.txt, c < 256 := D.indA fun k t ms l a ih hok => by
  rw [D.ok, D.oks_iff] at hok
  rw [D.txt]
  have h2 : ∀ l : List D, (∀ d ∈ l, ∀ c ∈ d.txt, c < 256) → ∀ c ∈ D.tails l, c < 256 := fun l => by
    induction l with
    | nil => simp [D.tails]
    | cons e l ih =>
      intro h c hc
      simp only [D.tails, List.mem_append, List.mem_singleton] at hc
      rcases hc with (rfl | hc) | hc
      · omega
      · exact h e (by simp) c hc
      · exact ih (fun d hd => h d (by simp [hd])) c hc
  split
  · intro c hc
    simp only [List.mem_append, List.mem_singleton] at hc
    rcases hc with (rfl | hc) | rfl
    · omega
    · cases l with
      | nil => simp [D.txts] at hc
      | cons e l =>
        simp only [D.txts, List.mem_append] at hc
        rcases hc with hc | hc
        · exact ih e (by simp) (hok.2 e (by simp)) c hc
        · exact h2 l (fun d hd => ih d (by simp [hd]) (hok.2 d (by simp [hd]))) c hc
    · omega
  · exact hok.1

/-- write -/
def WriteOk (d : D) : Prop := Ev fun n => ∀ (H : Heap) (k : Nat) (s : List Nat), Bld H k s → HLow H → s.length + d.txt.length ≤ 1099511627776 →
  Gives (callN P2 n 31 [.ptr (.new k) 0, d.v] H) fun _ H' => Bld H' k (s ++ d.txt) ∧ HKeep (firmBut k) H H'

theorem write31 : ∀ d, WriteOk d := D.indA fun kd t ms l a ih => by
  refine Ev.succ (((Ev.all l ih).and (Ev.ge (l.length + 2))).mono fun n hn H k s hb low hlen => ?_)
  obtain ⟨ihn, hge⟩ := hn
  obtain ⟨n, rfl⟩ : ∃ m, n = m + 2 := ⟨n - 2, by omega⟩
  rw [callN_code (P := P2) (sf := c31) rfl (code31 _ _) rfl rfl]
  rw [D.txt] at hlen ⊢
  by_cases hkd : kd = 4
  · subst hkd
    rw [if_pos rfl] at hlen ⊢
    simp only [List.length_append, List.length_singleton] at hlen
    have hll := len_le_txts l
    have h4 : ((4 : Int) != 4) = false := rfl
    simp -implicitDefEqProofs only [c31, ↓v_lenS, SB, POp.val, AOp.val, WOp.val, Lite.bin, intBin, strBin, eqv, eqMany, eq1, AV.asBool, AV.asInt, AV.asNat, AV.asPtr, AV.asStr, resVals, ResV.val, oneOr, wants, skipped, fillAt, putAt, capOf, optNat, bnd, Nat.reduceBEq, reduceIte, Nat.reduceAdd, Nat.reduceLeDiff, Nat.reduceEqDiff, Nat.reduceSub, Nat.reduceMul, Nat.reduceDiv, SOper.again, same, sameBlk, sameCap, Nat.reduceBneDiff, s_draw2, s_pair, k_pair, asunder, SOper.into, Bool.not_false, Bool.not_true, CL, DS, h4]
    refine gives_call (run37 (hb.push low) low.push (by simp; omega)) ?_
    rintro v H1 ⟨hb1, kp1⟩
    have hn1 : H.n ≠ k := by have := hb.lt low; omega
    have kp0 : HKeep (firmBut k) H H1 := (HKeep.push low).trans kp1
    have hd := kp1.get H.n _ (by rw [h_get, if_pos rfl]) (firmBut_row hn1)
    have low1 := kp0.low low
    simp -implicitDefEqProofs only [↓v_lenS, SB, POp.val, AOp.val, WOp.val, Lite.bin, intBin, strBin, eqv, eqMany, eq1, AV.asBool, AV.asInt, AV.asNat, AV.asPtr, AV.asStr, resVals, ResV.val, oneOr, wants, skipped, fillAt, putAt, capOf, optNat, bnd, Nat.reduceBEq, reduceIte, Nat.reduceAdd, Nat.reduceLeDiff, Nat.reduceEqDiff, Nat.reduceSub, Nat.reduceMul, Nat.reduceDiv, SOper.again, same, sameBlk, sameCap, Nat.reduceBneDiff, s_draw2, s_pair, k_pair, asunder, SOper.into, Bool.not_false, Bool.not_true, DS, hd]
    refine loop_rounds l.length (fun i fr H2 => Bld H2 k (s ++ [40] ++ D.txts (l.take i)) ∧ HKeep (firmBut k) H H2 ∧ fr 0 = .ptr (.new k) 0 ∧ fr 20 = vData l ∧ fr 21 = .int .i64 l.length ∧ fr 22 = .int .i64 i) ?_ ?_ _ 0 _ _ (by omega) (by omega) ?_
    · rintro i fr H2 K' hi ⟨hb2, kp2, h0, h20, h21, h22⟩ hKe hKr hK
      obtain ⟨d, hd⟩ : ∃ d, l[i]? = some d := ⟨l[i], List.getElem?_eq_getElem hi⟩
      have e1 := ihn d (List.mem_of_getElem? hd)
      have hlt : (i : Int) < (l.length : Int) := by omega
      have hw := wrap_succ hi (by omega)
      have low2 := kp2.low low
      have htl := txts_take_len l (i + 1)
      rw [txts_take hd, List.length_append, List.length_append] at htl
      have hk2 := hb2.lt low2
      have hn2 : H2.n ≠ k := by omega
      have ht := txts_take hd
      obtain ⟨kd, td, md, ld, ad⟩ := d
      have g1 : (H2.push (.row [.int .i64 0, .str [], .nils, .nils, .int .i64 0] 0 false (some 30))).t.get H2.n = some (.row [.int .i64 0, .str [], .nils, .nils, .int .i64 0] 0 false (some 30)) := by rw [h_get, if_pos rfl]
      have hb3 := (hb2.push low2 (o := .row [.int .i64 0, .str [], .nils, .nils, .int .i64 0] 0 false (some 30))).put (o := .row [.int .i64 kd, .str td, vInts md, vData ld, .int .i64 ad] 0 false (some 30)) (Ne.symm hn2) g1
      have low3 := (low2.push (ob := .row [.int .i64 0, .str [], .nils, .nils, .int .i64 0] 0 false (some 30))).put (j := H2.n) (by simp [h_n]) (ob := .row [.int .i64 kd, .str td, vInts md, vData ld, .int .i64 ad] 0 false (some 30))
      have kp3 : HKeep (firmBut k) H2 ((H2.push (.row [.int .i64 0, .str [], .nils, .nils, .int .i64 0] 0 false (some 30))).put H2.n (.row [.int .i64 kd, .str td, vInts md, vData ld, .int .i64 ad] 0 false (some 30))) :=
        ⟨by rw [h_nput, h_n]; omega, fun j o hg _ => by rw [h_gput, if_neg (by have := low2 j o hg; omega), h_get, if_neg (by have := low2 j o hg; omega)]; exact hg, fun _ => low3⟩
      have g3 : ((H2.push (.row [.int .i64 0, .str [], .nils, .nils, .int .i64 0] 0 false (some 30))).put H2.n (.row [.int .i64 kd, .str td, vInts md, vData ld, .int .i64 ad] 0 false (some 30))).t.get H2.n = some (.row [.int .i64 kd, .str td, vInts md, vData ld, .int .i64 ad] 0 false (some 30)) := by rw [h_gput, if_pos rfl]
      simp -implicitDefEqProofs only [c31_l0, ↓v_lenS, SB, POp.val, AOp.val, WOp.val, Lite.bin, intBin, strBin, eqv, eqMany, eq1, AV.asBool, AV.asInt, AV.asNat, AV.asPtr, AV.asStr, resVals, ResV.val, oneOr, wants, skipped, fillAt, putAt, capOf, optNat, bnd, Nat.reduceBEq, reduceIte, Nat.reduceAdd, Nat.reduceLeDiff, Nat.reduceEqDiff, Nat.reduceSub, Nat.reduceMul, Nat.reduceDiv, SOper.again, same, sameBlk, sameCap, Nat.reduceBneDiff, s_draw2, s_pair, k_pair, asunder, SOper.into, Bool.not_false, Bool.not_true, CL, DS, h0, h20, h21, h22, hlt, iaddr_vData hd]
      generalize (H2.push (.row [.int .i64 0, .str [], .nils, .nils, .int .i64 0] 0 false (some 30))).put H2.n (.row [.int .i64 kd, .str td, vInts md, vData ld, .int .i64 ad] 0 false (some 30)) = H3 at hb3 low3 kp3 g3 ⊢
      have rest : ∀ (s3 : List Nat) (H4 : Heap), Bld H4 k s3 → HKeep (firmBut k) H3 H4 → s3.length + (D.mk kd td md ld ad).txt.length ≤ 1099511627776 →
          Gives (callN P2 (n + 2) 31 [.ptr (.new k) 0, .agg [.int .i64 kd, .str td, vInts md, vData ld, .int .i64 ad]] H4) fun _ H' => Bld H' k (s3 ++ (D.mk kd td md ld ad).txt) ∧ HKeep (firmBut k) H H' := by
        intro s3 H4 hb4 kp4 hs3
        have := e1 H4 k s3 hb4 (kp4.low low3) hs3
        rw [D.v_mk] at this
        exact this.mono fun v H5 h5 => ⟨h5.1, kp2.trans (kp3.trans (kp4.trans h5.2))⟩
      by_cases hi0 : i = 0
      · subst hi0
        have hg : ¬ ((0 : Nat) : Int) > 0 := by omega
        simp -implicitDefEqProofs only [↓v_lenS, SB, POp.val, AOp.val, WOp.val, Lite.bin, intBin, strBin, eqv, eqMany, eq1, AV.asBool, AV.asInt, AV.asNat, AV.asPtr, AV.asStr, resVals, ResV.val, oneOr, wants, skipped, fillAt, putAt, capOf, optNat, bnd, Nat.reduceBEq, reduceIte, Nat.reduceAdd, Nat.reduceLeDiff, Nat.reduceEqDiff, Nat.reduceSub, Nat.reduceMul, Nat.reduceDiv, SOper.again, same, sameBlk, sameCap, Nat.reduceBneDiff, s_draw2, s_pair, k_pair, asunder, SOper.into, Bool.not_false, Bool.not_true, CL, hg, h0, h20, h21, h22, g3]
        refine gives_call (rest _ _ hb3 HKeep.refl (by simp [D.txts] at htl ⊢; omega)) ?_
        rintro v H5 ⟨hb5, kp5⟩
        simp -implicitDefEqProofs only [↓v_lenS, SB, POp.val, AOp.val, WOp.val, Lite.bin, intBin, strBin, eqv, eqMany, eq1, AV.asBool, AV.asInt, AV.asNat, AV.asPtr, AV.asStr, resVals, ResV.val, oneOr, wants, skipped, fillAt, putAt, capOf, optNat, bnd, Nat.reduceBEq, reduceIte, Nat.reduceAdd, Nat.reduceLeDiff, Nat.reduceEqDiff, Nat.reduceSub, Nat.reduceMul, Nat.reduceDiv, SOper.again, same, sameBlk, sameCap, Nat.reduceBneDiff, s_draw2, s_pair, k_pair, asunder, SOper.into, Bool.not_false, Bool.not_true, h0, h20, h21, h22, hw]
        refine hK _ _ ?_
        simp -implicitDefEqProofs only [↓v_lenS, SB, POp.val, AOp.val, WOp.val, Lite.bin, intBin, strBin, eqv, eqMany, eq1, AV.asBool, AV.asInt, AV.asNat, AV.asPtr, AV.asStr, resVals, ResV.val, oneOr, wants, skipped, fillAt, putAt, capOf, optNat, bnd, Nat.reduceBEq, reduceIte, Nat.reduceAdd, Nat.reduceLeDiff, Nat.reduceEqDiff, Nat.reduceSub, Nat.reduceMul, Nat.reduceDiv, SOper.again, same, sameBlk, sameCap, Nat.reduceBneDiff, s_draw2, s_pair, k_pair, asunder, SOper.into, Bool.not_false, Bool.not_true, h0, h20, h21]
        refine ⟨?_, kp5⟩
        rw [ht]
        simpa using hb5
      · have hg : (i : Int) > 0 := by omega
        rw [if_neg hi0] at htl
        simp -implicitDefEqProofs only [↓v_lenS, SB, POp.val, AOp.val, WOp.val, Lite.bin, intBin, strBin, eqv, eqMany, eq1, AV.asBool, AV.asInt, AV.asNat, AV.asPtr, AV.asStr, resVals, ResV.val, oneOr, wants, skipped, fillAt, putAt, capOf, optNat, bnd, Nat.reduceBEq, reduceIte, Nat.reduceAdd, Nat.reduceLeDiff, Nat.reduceEqDiff, Nat.reduceSub, Nat.reduceMul, Nat.reduceDiv, SOper.again, same, sameBlk, sameCap, Nat.reduceBneDiff, s_draw2, s_pair, k_pair, asunder, SOper.into, Bool.not_false, Bool.not_true, CL, hg, h0, h20, h21, h22]
        refine gives_call (run37 hb3 low3 (by simp at htl ⊢; omega)) ?_
        rintro v H4 ⟨hb4, kp4⟩
        have g4 := kp4.get _ _ g3 (firmBut_row hn2)
        simp -implicitDefEqProofs only [↓v_lenS, SB, POp.val, AOp.val, WOp.val, Lite.bin, intBin, strBin, eqv, eqMany, eq1, AV.asBool, AV.asInt, AV.asNat, AV.asPtr, AV.asStr, resVals, ResV.val, oneOr, wants, skipped, fillAt, putAt, capOf, optNat, bnd, Nat.reduceBEq, reduceIte, Nat.reduceAdd, Nat.reduceLeDiff, Nat.reduceEqDiff, Nat.reduceSub, Nat.reduceMul, Nat.reduceDiv, SOper.again, same, sameBlk, sameCap, Nat.reduceBneDiff, s_draw2, s_pair, k_pair, asunder, SOper.into, Bool.not_false, Bool.not_true, CL, h0, h20, h21, h22, g4]
        refine gives_call (rest _ _ hb4 kp4 (by simp at htl ⊢; omega)) ?_
        rintro v H5 ⟨hb5, kp5⟩
        simp -implicitDefEqProofs only [↓v_lenS, SB, POp.val, AOp.val, WOp.val, Lite.bin, intBin, strBin, eqv, eqMany, eq1, AV.asBool, AV.asInt, AV.asNat, AV.asPtr, AV.asStr, resVals, ResV.val, oneOr, wants, skipped, fillAt, putAt, capOf, optNat, bnd, Nat.reduceBEq, reduceIte, Nat.reduceAdd, Nat.reduceLeDiff, Nat.reduceEqDiff, Nat.reduceSub, Nat.reduceMul, Nat.reduceDiv, SOper.again, same, sameBlk, sameCap, Nat.reduceBneDiff, s_draw2, s_pair, k_pair, asunder, SOper.into, Bool.not_false, Bool.not_true, h0, h20, h21, h22, hw]
        refine hK _ _ ?_
        simp -implicitDefEqProofs only [↓v_lenS, SB, POp.val, AOp.val, WOp.val, Lite.bin, intBin, strBin, eqv, eqMany, eq1, AV.asBool, AV.asInt, AV.asNat, AV.asPtr, AV.asStr, resVals, ResV.val, oneOr, wants, skipped, fillAt, putAt, capOf, optNat, bnd, Nat.reduceBEq, reduceIte, Nat.reduceAdd, Nat.reduceLeDiff, Nat.reduceEqDiff, Nat.reduceSub, Nat.reduceMul, Nat.reduceDiv, SOper.again, same, sameBlk, sameCap, Nat.reduceBneDiff, s_draw2, s_pair, k_pair, asunder, SOper.into, Bool.not_false, Bool.not_true, h0, h20, h21]
        refine ⟨?_, kp5⟩
        rw [ht, if_neg hi0]
        simpa [List.append_assoc] using hb5
    · rintro fr H2 K' ⟨hb2, kp2, h0, h20, h21, h22⟩ hKe hKr
      rw [List.take_length] at hb2
      simp -implicitDefEqProofs only [c31_l0, ↓v_lenS, SB, POp.val, AOp.val, WOp.val, Lite.bin, intBin, strBin, eqv, eqMany, eq1, AV.asBool, AV.asInt, AV.asNat, AV.asPtr, AV.asStr, resVals, ResV.val, oneOr, wants, skipped, fillAt, putAt, capOf, optNat, bnd, Nat.reduceBEq, reduceIte, Nat.reduceAdd, Nat.reduceLeDiff, Nat.reduceEqDiff, Nat.reduceSub, Nat.reduceMul, Nat.reduceDiv, SOper.again, same, sameBlk, sameCap, Nat.reduceBneDiff, s_draw2, s_pair, k_pair, asunder, SOper.into, Bool.not_false, Bool.not_true, CL, h0, h20, h21, h22, Int.lt_irrefl, hKe]
      refine gives_call (run37 hb2 (kp2.low low) (by simp; omega)) ?_
      rintro v H3 ⟨hb3, kp3⟩
      simp -implicitDefEqProofs only [↓v_lenS, SB, POp.val, AOp.val, WOp.val, Lite.bin, intBin, strBin, eqv, eqMany, eq1, AV.asBool, AV.asInt, AV.asNat, AV.asPtr, AV.asStr, resVals, ResV.val, oneOr, wants, skipped, fillAt, putAt, capOf, optNat, bnd, Nat.reduceBEq, reduceIte, Nat.reduceAdd, Nat.reduceLeDiff, Nat.reduceEqDiff, Nat.reduceSub, Nat.reduceMul, Nat.reduceDiv, SOper.again, same, sameBlk, sameCap, Nat.reduceBneDiff, s_draw2, s_pair, k_pair, asunder, SOper.into, Bool.not_false, Bool.not_true, gives_ret]
      exact ⟨by simpa [List.append_assoc] using hb3, kp2.trans kp3⟩
    · simp -implicitDefEqProofs only [↓v_lenS, SB, POp.val, AOp.val, WOp.val, Lite.bin, intBin, strBin, eqv, eqMany, eq1, AV.asBool, AV.asInt, AV.asNat, AV.asPtr, AV.asStr, resVals, ResV.val, oneOr, wants, skipped, fillAt, putAt, capOf, optNat, bnd, Nat.reduceBEq, reduceIte, Nat.reduceAdd, Nat.reduceLeDiff, Nat.reduceEqDiff, Nat.reduceSub, Nat.reduceMul, Nat.reduceDiv, SOper.again, same, sameBlk, sameCap, Nat.reduceBneDiff, s_draw2, s_pair, k_pair, asunder, SOper.into, Bool.not_false, Bool.not_true, List.take_zero, D.txts, List.append_nil]
      exact ⟨hb1, kp0, rfl⟩
  · rw [if_neg hkd] at hlen ⊢
    have h4 : (kd != 4) = true := by simpa using hkd
    simp -implicitDefEqProofs only [c31, ↓v_lenS, SB, POp.val, AOp.val, WOp.val, Lite.bin, intBin, strBin, eqv, eqMany, eq1, AV.asBool, AV.asInt, AV.asNat, AV.asPtr, AV.asStr, resVals, ResV.val, oneOr, wants, skipped, fillAt, putAt, capOf, optNat, bnd, Nat.reduceBEq, reduceIte, Nat.reduceAdd, Nat.reduceLeDiff, Nat.reduceEqDiff, Nat.reduceSub, Nat.reduceMul, Nat.reduceDiv, SOper.again, same, sameBlk, sameCap, Nat.reduceBneDiff, s_draw2, s_pair, k_pair, asunder, SOper.into, Bool.not_false, Bool.not_true, CL, DS, h4]
    refine gives_call (run37 (hb.push low) low.push hlen) ?_
    rintro v H1 ⟨hb1, kp1⟩
    simp -implicitDefEqProofs only [↓v_lenS, SB, POp.val, AOp.val, WOp.val, Lite.bin, intBin, strBin, eqv, eqMany, eq1, AV.asBool, AV.asInt, AV.asNat, AV.asPtr, AV.asStr, resVals, ResV.val, oneOr, wants, skipped, fillAt, putAt, capOf, optNat, bnd, Nat.reduceBEq, reduceIte, Nat.reduceAdd, Nat.reduceLeDiff, Nat.reduceEqDiff, Nat.reduceSub, Nat.reduceMul, Nat.reduceDiv, SOper.again, same, sameBlk, sameCap, Nat.reduceBneDiff, s_draw2, s_pair, k_pair, asunder, SOper.into, Bool.not_false, Bool.not_true, gives_ret]
    exact ⟨hb1, (HKeep.push low).trans kp1⟩

theorem text14 (d : D) (hok : d.ok) (hlen : d.txt.length ≤ 1099511627776) : Ret P2 14 [d.v] (.str d.txt) := by
  refine Ret.of rfl (code14 _ _) rfl rfl (fun H => by simp -implicitDefEqProofs only [↓v_lenS, SB, POp.val, AOp.val, WOp.val, Lite.bin, intBin, strBin, eqv, eqMany, eq1, AV.asBool, AV.asInt, AV.asNat, AV.asPtr, AV.asStr, resVals, ResV.val, oneOr, wants, skipped, fillAt, putAt, capOf, optNat, bnd, Nat.reduceBEq, reduceIte, Nat.reduceAdd, Nat.reduceLeDiff, Nat.reduceEqDiff, Nat.reduceSub, Nat.reduceMul, Nat.reduceDiv, SOper.again, same, sameBlk, sameCap, Nat.reduceBneDiff, s_draw2, s_pair, k_pair, asunder, SOper.into, Bool.not_false, Bool.not_true, DS]) ?_
  refine ((write31 d).and (Ev.ge 1)).mono fun n hn H => ?_
  obtain ⟨hw, hge⟩ := hn
  obtain ⟨n, rfl⟩ : ∃ m, n = m + 1 := ⟨n - 1, by omega⟩
  have h256 := txt256 d hok
  obtain ⟨kd, td, md, ld, ad⟩ := d
  simp -implicitDefEqProofs only [c14, ↓v_lenS, SB, POp.val, AOp.val, WOp.val, Lite.bin, intBin, strBin, eqv, eqMany, eq1, AV.asBool, AV.asInt, AV.asNat, AV.asPtr, AV.asStr, resVals, ResV.val, oneOr, wants, skipped, fillAt, putAt, capOf, optNat, bnd, Nat.reduceBEq, reduceIte, Nat.reduceAdd, Nat.reduceLeDiff, Nat.reduceEqDiff, Nat.reduceSub, Nat.reduceMul, Nat.reduceDiv, SOper.again, same, sameBlk, sameCap, Nat.reduceBneDiff, s_draw2, s_pair, k_pair, asunder, SOper.into, Bool.not_false, Bool.not_true, CL, DS, Ends]
  have low : HLow ((H.bare.push (.row [.int .i64 kd, .str td, vInts md, vData ld, .int .i64 ad] 0 false (some 30))).push (.row [.nilp, .nils] 0 false (some 54))) := HLow.bare.push.push
  have := hw _ 1 [] ⟨.nilp, .nils, .inl rfl, by simp [h_get, h_n, h_nbare], .inl ⟨rfl, rfl, rfl⟩⟩ low (by simpa using hlen)
  rw [D.v_mk] at this
  refine gives_call this ?_
  rintro v H1 ⟨hb1, kp1⟩
  simp -implicitDefEqProofs only [↓v_lenS, SB, POp.val, AOp.val, WOp.val, Lite.bin, intBin, strBin, eqv, eqMany, eq1, AV.asBool, AV.asInt, AV.asNat, AV.asPtr, AV.asStr, resVals, ResV.val, oneOr, wants, skipped, fillAt, putAt, capOf, optNat, bnd, Nat.reduceBEq, reduceIte, Nat.reduceAdd, Nat.reduceLeDiff, Nat.reduceEqDiff, Nat.reduceSub, Nat.reduceMul, Nat.reduceDiv, SOper.again, same, sameBlk, sameCap, Nat.reduceBneDiff, s_draw2, s_pair, k_pair, asunder, SOper.into, Bool.not_false, Bool.not_true, CL]
  refine gives_call (run32 hb1 (by simpa using h256) (by simpa using hlen)) ?_
  rintro v H2 rfl
  simp -implicitDefEqProofs only [↓v_lenS, SB, POp.val, AOp.val, WOp.val, Lite.bin, intBin, strBin, eqv, eqMany, eq1, AV.asBool, AV.asInt, AV.asNat, AV.asPtr, AV.asStr, resVals, ResV.val, oneOr, wants, skipped, fillAt, putAt, capOf, optNat, bnd, Nat.reduceBEq, reduceIte, Nat.reduceAdd, Nat.reduceLeDiff, Nat.reduceEqDiff, Nat.reduceSub, Nat.reduceMul, Nat.reduceDiv, SOper.again, same, sameBlk, sameCap, Nat.reduceBneDiff, s_draw2, s_pair, k_pair, asunder, SOper.into, Bool.not_false, Bool.not_true, gives_ret, List.nil_append]
  exact ⟨_, rfl⟩

end Go.Lite
