/-
  What is plain, in rows of its own.
-/
import Derived.Test.YtibjdfajafilhaaECopy
import Derived.Test.YtibjdfajafilhaaEFacts
import Derived.Test.YtibjdfajafilhaaLAcc
namespace Go.Lite
open Go Go.Proofs
set_option maxRecDepth 100000
set_option linter.unusedSimpArgs false
set_option linter.unusedVariables false

theorem seal17 : Q2 = P2 := by
  have h : (fun g => bif Nat.beq g 17 then 2 else mode2 g) = mode2 := by
    funext g
    cases h : Nat.beq g 17 with
    | false => rfl
    | true => rw [Nat.eq_of_beq_eq_true h]; rfl
  show (slimPrg Try.prog own2 fun g => bif Nat.beq g 17 then 2 else mode2 g) = P2
  rw [h]; rfl

theorem copyS (d : D) (h : d.small) : Ret P2 17 [d.v] d.v := seal17 ▸ copyQ d h

/-- a part's list lies in a row of its own -/
def One (H : Heap) (v : AV) : Prop := (v = .nils ∨ v = .lst 0 0 true []) ∨ ∃ j cs n, v = .slice (.new j) 0 n (.gro 5) ∧ n ≠ 0 ∧ H.t.get j = some (.row cs 5 false (some 30)) ∧ cs.length = n * 5 ∧ n ≤ 1048576

theorem One.keep {H H' : Heap} {v : AV} (h : One H v) (k : ∀ j o, blk v j o → H.t.get j = some o → H'.t.get j = some o) : One H' v := by
  rcases h with h | ⟨j, cs, n, rfl, h1, h2, h3⟩
  · exact .inl h
  · exact .inr ⟨j, cs, n, rfl, h1, k j _ ⟨_, _, _, rfl⟩ h2, h3⟩
theorem One.lt {H : Heap} {v : AV} (h : One H v) (low : HLow H) {j : Nat} {o : Obj} (hb : blk v j o) : j < H.n := by
  obtain ⟨o', m, c, he⟩ := hb
  rcases h with (h | h) | ⟨j', cs, n, h, h1, h2, h3⟩
  · rw [h] at he; cases he
  · rw [h] at he; cases he
  · rw [h] at he
    simp only [AV.slice.injEq, Blk.new.injEq] at he
    rw [← he.1]
    exact low.lt h2

/-- .. of each part, apart from the list's own row -/
def Ones (H : Heap) (cs : List AV) (n : Nat) (v : AV) : Prop := ∀ i, i < n → ∃ u, cs[i * 5 + 3]? = some u ∧ One H u ∧ ∀ j o, blk u j o → ¬ blk v j o

/-- what is plain -/
def Plained (H : Heap) (d : D) (v : AV) (H' : Heap) : Prop := ∃ k t ms l a lv cs, d = .mk k t ms l a ∧ v = .agg [.int .i64 k, .str t, .nils, lv, .int .i64 a] ∧ Acc H.n H' 30 5 l.length cs lv ∧ cs.all AV.flat = true ∧ Ones H' cs l.length lv ∧ HKeep (fun _ _ => False) H H' ∧ HLow H'

theorem Ones.more {H H' : Heap} {cs ys : List AV} {n k : Nat} {v : AV} {c : Cap} {m : Nat} {u : AV} (h : Ones H cs n v) (hl : cs.length = n * 5) (hy : ys[3]? = some u) (hu : One H' u) (huk : ∀ j o, blk u j o → j ≠ k) (hk : ∀ j o, H.t.get j = some o → j < k)
    (keep : ∀ j o, H.t.get j = some o → ¬ blk v j o → H'.t.get j = some o) : Ones H' (cs ++ ys) (n + 1) (.slice (.new k) 0 m c) := by
  have hb : ∀ j o, blk (.slice (.new k) 0 m c) j o → j = k := by
    rintro j o ⟨o', m', c', he⟩
    simp only [AV.slice.injEq, Blk.new.injEq] at he
    exact he.1.symm
  intro i hi
  by_cases h1 : i < n
  · obtain ⟨w, w1, w2, w3⟩ := h i h1
    refine ⟨w, by rw [List.getElem?_append_left (by omega)]; exact w1, w2.keep fun j o hj ho => keep j o ho (w3 j o hj), fun j o hj hb' => ?_⟩
    have := hb j o hb'
    rcases w2 with (h | h) | ⟨j', cs', n', h, _, h2, _⟩
    · rw [h] at hj; obtain ⟨_, _, _, he⟩ := hj; cases he
    · rw [h] at hj; obtain ⟨_, _, _, he⟩ := hj; cases he
    · rw [h] at hj
      obtain ⟨_, _, _, he⟩ := hj
      simp only [AV.slice.injEq, Blk.new.injEq] at he
      have := hk j' _ h2
      omega
  · obtain rfl : i = n := by omega
    exact ⟨u, by rw [List.getElem?_append_right (by omega), show i * 5 + 3 - cs.length = 3 by omega]; exact hy, hu, fun j o hj hb' => huk j o hj (hb j o hb')⟩

theorem Ones.keep {H H' : Heap} {cs : List AV} {n : Nat} {v : AV} (h : Ones H cs n v) (k : ∀ j o, H.t.get j = some o → H'.t.get j = some o) : Ones H' cs n v := fun i hi => by
  obtain ⟨u, h1, h2, h3⟩ := h i hi
  exact ⟨u, h1, h2.keep fun j o _ ho => k j o ho, h3⟩

theorem app_fresh {G : Heap} {e es bs n : Nat} {cs : List AV} (h0 : n ≠ 0) (hes : es ≠ 0) (hfl : cs.all AV.flat = true) (hb : n * bs ≤ 1099511627776 ∧ n ≤ 1099511627776) : appendOf e es bs G (.lst 0 0 true []) (n, cs) = some (.slice (.new G.n) 0 n (.gro es), G.push (.row cs es false (some e))) := by
  unfold appendOf
  rw [if_neg (by simp [hes, hfl])]
  simp only []
  rw [Nat.zero_add, if_neg h0, if_pos ⟨.inr trivial, trivial, hb.1, hb.2⟩]
  rfl

theorem One.row {H : Heap} {v : AV} (h : One H v) {j : Nat} {o : Obj} (hb : blk v j o) : ∃ cs, H.t.get j = some (.row cs 5 false (some 30)) := by
  obtain ⟨o', m, c, he⟩ := hb
  rcases h with (h | h) | ⟨j', cs, n, h, h1, h2, h3⟩
  · rw [h] at he; cases he
  · rw [h] at he; cases he
  · rw [h] at he
    simp only [AV.slice.injEq, Blk.new.injEq] at he
    rw [← he.1]
    exact ⟨cs, h2⟩

theorem call33 (m : Nat) (v : AV) (H : Heap) : callN P2 (m + 1) 33 [v] H = c33.body.run (callN P2 m) m (initFr [v]) H (finish c33.res) := callN_code rfl (code33 _ _) rfl rfl

theorem plainO : ∀ d : D, d.small → Ev fun n => ∀ H, HLow H → Gives (call3 P2 n 18 [d.v] H) fun v H' => Plained H d v H' := D.indA fun k t ms l a ih hsm => by
  rw [D.small, D.smalls_iff] at hsm
  obtain ⟨f1, f2, f3⟩ := hsm
  refine Ev.succ (((Ev.all l fun d hd => ih d hd (f3 d hd)).and (Ev.ge (l.length + 3))).mono fun n hn H low => ?_)
  obtain ⟨ihn, hge⟩ := hn
  rw [call3_code (P := P2) (sf := c18) (code18 _ _) rfl, D.v_mk]
  simp -implicitDefEqProofs only [c18, ↓v_lenS, SB, POp.val, AOp.val, WOp.val, Lite.bin, intBin, strBin, eqv, eqMany, eq1, AV.asBool, AV.asInt, AV.asNat, AV.asPtr, AV.asStr, resVals, ResV.val, oneOr, wants, skipped, fillAt, putAt, capOf, optNat, bnd, Nat.reduceBEq, reduceIte, Nat.reduceAdd, Nat.reduceLeDiff, Nat.reduceEqDiff, Nat.reduceSub, Nat.reduceMul, Nat.reduceDiv, SOper.again, same, sameBlk, sameCap, Nat.reduceBneDiff, s_draw2, s_pair, k_pair, asunder, SOper.into, Bool.not_false, Bool.not_true, CL, DS]
  refine loop_rounds l.length (fun i fr H2 => ∃ v cs, Acc H.n H2 30 5 i cs v ∧ cs.all AV.flat = true ∧ Ones H2 cs i v ∧ HLow H2 ∧ fr 1 = .ptr (.new H.n) 0 ∧ fr 2 = .ptr (.new (H.n + 1)) 0 ∧ fr 3 = v ∧ fr 7 = vData l ∧ fr 8 = .int .i64 l.length ∧ fr 9 = .int .i64 i ∧
      H2.t.get H.n = some (.row [.int .i64 k, .str t, vInts ms, vData l, .int .i64 a] 0 false (some 30)) ∧ H2.t.get (H.n + 1) = some (.row [.int .i64 0, .str [], .nils, .nils, .int .i64 0] 0 false (some 30)) ∧ HKeep (fun _ _ => False) H H2) ?_ ?_ n 0 _ _ (by omega) (by omega) ?_
  · rintro i fr H2 K' hi ⟨v, cs, acc, cfl, ones, low2, h1, h2, h3, h7, h8, h9, g0, g1, kp2⟩ hKe hKr hK
    obtain ⟨d, hd⟩ : ∃ d, l[i]? = some d := ⟨l[i], List.getElem?_eq_getElem hi⟩
    have e1 := ihn d (List.mem_of_getElem? hd)
    have hlt : (i : Int) < (l.length : Int) := by omega
    have hw := wrap_succ hi (by omega)
    have hcl : cs.length = i * 5 := by
      rcases acc with ⟨h, h', _⟩ | ⟨_, h, _⟩
      · rw [h, h']; rfl
      · exact h
    have hds := f3 d (List.mem_of_getElem? hd)
    obtain ⟨kd, td, md, ld, ad⟩ := d
    rw [D.small] at hds
    rw [D.v_mk] at e1
    simp -implicitDefEqProofs only [c18_l0, ↓v_lenS, SB, POp.val, AOp.val, WOp.val, Lite.bin, intBin, strBin, eqv, eqMany, eq1, AV.asBool, AV.asInt, AV.asNat, AV.asPtr, AV.asStr, resVals, ResV.val, oneOr, wants, skipped, fillAt, putAt, capOf, optNat, bnd, Nat.reduceBEq, reduceIte, Nat.reduceAdd, Nat.reduceLeDiff, Nat.reduceEqDiff, Nat.reduceSub, Nat.reduceMul, Nat.reduceDiv, SOper.again, same, sameBlk, sameCap, Nat.reduceBneDiff, s_draw2, s_pair, k_pair, asunder, SOper.into, Bool.not_false, Bool.not_true, CL, DS, k_call3S, h1, h2, h3, h7, h8, h9, g0, g1, hlt, iaddr_vData hd]
    generalize hGx : (H2.push (Obj.row [AV.int IntKind.i64 0, AV.str [], AV.nils, AV.nils, AV.int IntKind.i64 0] 0 false (some 30))).put H2.n (Obj.row [AV.int IntKind.i64 kd, AV.str td, vInts md, vData ld, AV.int IntKind.i64 ad] 0 false (some 30)) = Gx
    have lowx : HLow Gx := hGx ▸ low2.push.put (by simp [h_n])
    have getx : ∀ j o, H2.t.get j = some o → Gx.t.get j = some o := fun j o h => by
      have := low2 j o h
      rw [← hGx, h_gput, if_neg (by omega), h_get, if_neg (by omega)]; exact h
    have nx : Gx.n = H2.n + 1 := by rw [← hGx, h_nput, h_n]
    clear hGx
    refine gives_call (e1 Gx lowx) ?_
    rintro v H3 ⟨k2, t2, ms2, l2, a2, lv2, cs2, hd2, rfl, acc2, cfl2, ones2, kp3, low3⟩
    have hl2b : l2.length ≤ 1048576 := by
      simp only [D.mk.injEq] at hd2
      rw [← hd2.2.2.2.1]; exact hds.2.1
    have n3 := kp3.n
    have get3 : ∀ j o, H2.t.get j = some o → H3.t.get j = some o := fun j o h => kp3.get j o (getx j o h) fun h => h
    have acc3 : Acc H.n H3 30 5 i cs (fr 3) := by
      rw [h3]; exact acc.keep fun j o _ hj => (get3 _ _ hj).trans hj.symm
    have m0 := low3.lt (get3 _ _ g0)
    have m1 := low3.lt (get3 _ _ g1)
    have ones3 := ones.keep get3
    have kpH3 : HKeep (fun _ _ => False) H H3 := kp2.trans ⟨by omega, fun j o h _ => get3 j o h, fun _ => low3⟩
    have kblk : ∀ j o, H3.t.get j = some o → j < (H3.push (Obj.row [] 0 true none)).n := fun j o h => by
      have := low3 j o h
      rw [h_n]; omega
    rcases acc2 with ⟨hl2, rfl, rfl⟩ | ⟨hl2, hcl2, k2b, rfl, hk2b, gk2⟩
    · obtain ⟨H4, happ, acc4, kp4, low4, n4⟩ := (acc3.push low3 (ob := .row [.int .i64 k2, .str t2, .lst 0 0 true [], .lst 0 0 true [], .int .i64 a2] 0 true none)).one_more (e := 30) (bs := 80) (ys := [.int .i64 k2, .str t2, .lst 0 0 true [], .lst 0 0 true [], .int .i64 a2]) (by rw [h_n]; have := kp2.n; omega) low3.push (by decide) rfl rfl (by omega)
      have q0 := (acc3.push low3).row (by decide) kp4 (j := H.n) (by rw [h_get, if_neg (by omega)]; exact get3 _ _ g0)
      have q1 := (acc3.push low3).row (by decide) kp4 (j := H.n + 1) (by rw [h_get, if_neg (by omega)]; exact get3 _ _ g1)
      rw [h3] at happ
      simp -implicitDefEqProofs only [↓v_lenS, SB, POp.val, AOp.val, WOp.val, Lite.bin, intBin, strBin, eqv, eqMany, eq1, AV.asBool, AV.asInt, AV.asNat, AV.asPtr, AV.asStr, resVals, ResV.val, oneOr, wants, skipped, fillAt, putAt, capOf, optNat, bnd, Nat.reduceBEq, reduceIte, Nat.reduceAdd, Nat.reduceLeDiff, Nat.reduceEqDiff, Nat.reduceSub, Nat.reduceMul, Nat.reduceDiv, SOper.again, same, sameBlk, sameCap, Nat.reduceBneDiff, s_draw2, s_pair, k_pair, asunder, SOper.into, Bool.not_false, Bool.not_true, CL, DS, h9, happ, hw]
      refine hK _ _ ⟨_, _, acc4, ?_, ?_, low4, ?_, ?_, ?_, ?_, ?_, ?_, q0, q1, ?_⟩
      · rw [List.all_append, cfl]; rfl
      · refine ones3.more hcl rfl (.inl (.inr rfl)) (by rintro j o ⟨_, _, _, h⟩; cases h) (fun j o h => by have := low3 j o h; rw [h_n]; omega) fun j o h hb => ?_
        exact kp4.get j o (by rw [h_get, if_neg (by have := low3 j o h; omega)]; exact h) (h3 ▸ hb)
      any_goals simp -implicitDefEqProofs only [↓v_lenS, SB, POp.val, AOp.val, WOp.val, Lite.bin, intBin, strBin, eqv, eqMany, eq1, AV.asBool, AV.asInt, AV.asNat, AV.asPtr, AV.asStr, resVals, ResV.val, oneOr, wants, skipped, fillAt, putAt, capOf, optNat, bnd, Nat.reduceBEq, reduceIte, Nat.reduceAdd, Nat.reduceLeDiff, Nat.reduceEqDiff, Nat.reduceSub, Nat.reduceMul, Nat.reduceDiv, SOper.again, same, sameBlk, sameCap, Nat.reduceBneDiff, s_draw2, s_pair, k_pair, asunder, SOper.into, Bool.not_false, Bool.not_true, h1, h2, h7, h8]
      exact (acc3.push low3).keeps (kpH3.pushed low) low kp4
    · obtain ⟨H4, happ, acc4, kp4, low4, n4⟩ := (acc3.push low3 (ob := .row [.int .i64 k2, .str t2, .nils, .slice (.new k2b) 0 l2.length (.gro 5), .int .i64 a2] 0 false none)).one_more (e := 30) (bs := 80) (ys := [.int .i64 k2, .str t2, .nils, .slice (.new k2b) 0 l2.length (.gro 5), .int .i64 a2]) (by rw [h_n]; have := kp2.n; omega) low3.push (by decide) rfl rfl (by omega)
      have q0 := (acc3.push low3).row (by decide) kp4 (j := H.n) (by rw [h_get, if_neg (by omega)]; exact get3 _ _ g0)
      have q1 := (acc3.push low3).row (by decide) kp4 (j := H.n + 1) (by rw [h_get, if_neg (by omega)]; exact get3 _ _ g1)
      rw [h3] at happ
      simp -implicitDefEqProofs only [↓v_lenS, SB, POp.val, AOp.val, WOp.val, Lite.bin, intBin, strBin, eqv, eqMany, eq1, AV.asBool, AV.asInt, AV.asNat, AV.asPtr, AV.asStr, resVals, ResV.val, oneOr, wants, skipped, fillAt, putAt, capOf, optNat, bnd, Nat.reduceBEq, reduceIte, Nat.reduceAdd, Nat.reduceLeDiff, Nat.reduceEqDiff, Nat.reduceSub, Nat.reduceMul, Nat.reduceDiv, SOper.again, same, sameBlk, sameCap, Nat.reduceBneDiff, s_draw2, s_pair, k_pair, asunder, SOper.into, Bool.not_false, Bool.not_true, CL, DS, h9, happ, hw]
      refine hK _ _ ⟨_, _, acc4, ?_, ?_, low4, ?_, ?_, ?_, ?_, ?_, ?_, q0, q1, ?_⟩
      · rw [List.all_append, cfl]; rfl
      · have nk2 := low3.lt gk2
        refine ones3.more hcl rfl (.inr ⟨k2b, cs2, l2.length, rfl, hl2, ?_, hcl2, hl2b⟩) ?_ (fun j o h => by have := low3 j o h; rw [h_n]; omega) fun j o h hb => ?_
        · refine kp4.get k2b _ (by rw [h_get, if_neg (by omega)]; exact gk2) fun hb => ?_
          have := (Lie.of acc).lt low2 (h3 ▸ hb)
          omega
        · rintro j o ⟨o', m', c', he⟩
          simp only [AV.slice.injEq, Blk.new.injEq] at he
          rw [h_n]; omega
        · exact kp4.get j o (by rw [h_get, if_neg (by have := low3 j o h; omega)]; exact h) (h3 ▸ hb)
      any_goals simp -implicitDefEqProofs only [↓v_lenS, SB, POp.val, AOp.val, WOp.val, Lite.bin, intBin, strBin, eqv, eqMany, eq1, AV.asBool, AV.asInt, AV.asNat, AV.asPtr, AV.asStr, resVals, ResV.val, oneOr, wants, skipped, fillAt, putAt, capOf, optNat, bnd, Nat.reduceBEq, reduceIte, Nat.reduceAdd, Nat.reduceLeDiff, Nat.reduceEqDiff, Nat.reduceSub, Nat.reduceMul, Nat.reduceDiv, SOper.again, same, sameBlk, sameCap, Nat.reduceBneDiff, s_draw2, s_pair, k_pair, asunder, SOper.into, Bool.not_false, Bool.not_true, h1, h2, h7, h8]
      exact (acc3.push low3).keeps (kpH3.pushed low) low kp4
  · rintro fr H2 K' ⟨v, cs, acc, cfl, ones, low2, h1, h2, h3, h7, h8, h9, g0, g1, kp2⟩ hKe hKr
    obtain ⟨m, rfl⟩ : ∃ m, n = m + 1 := ⟨n - 1, by omega⟩
    have m0 := low2.lt g0
    have m1 := low2.lt g1
    rcases acc with ⟨hl0, rfl, rfl⟩ | ⟨hl0, hcl, kb, rfl, hkb, gk⟩
    · simp -implicitDefEqProofs only [c18_l0, ↓v_lenS, SB, POp.val, AOp.val, WOp.val, Lite.bin, intBin, strBin, eqv, eqMany, eq1, AV.asBool, AV.asInt, AV.asNat, AV.asPtr, AV.asStr, resVals, ResV.val, oneOr, wants, skipped, fillAt, putAt, capOf, optNat, bnd, Nat.reduceBEq, reduceIte, Nat.reduceAdd, Nat.reduceLeDiff, Nat.reduceEqDiff, Nat.reduceSub, Nat.reduceMul, Nat.reduceDiv, SOper.again, same, sameBlk, sameCap, Nat.reduceBneDiff, s_draw2, s_pair, k_pair, asunder, SOper.into, Bool.not_false, Bool.not_true, CL, DS, h1, h2, h3, h7, h8, h9, g0, g1, Int.lt_irrefl, hKe, k_blockE, call33, c33, gives_ret]
      exact ⟨k, t, ms, l, a, _, _, rfl, rfl, .inl ⟨hl0, rfl, rfl⟩, rfl, fun i hi => by omega, ((kp2.own low (by omega) m0).own low (by omega) (by rw [h_nput]; exact m0)).own low (by omega) (by simp only [h_nput]; exact m1), ((low2.put m0).put (by rw [h_nput]; exact m0)).put (by simp only [h_nput]; exact m1)⟩
    · have nkb := low2.lt gk
      have z1 : ¬ kb = H2.n := by omega
      have z2 : ¬ H.n = H2.n := by omega
      have z3 : ¬ H.n + 1 = H2.n := by omega
      have z4 : ¬ H.n = H2.n + 1 := by omega
      have z5 : ¬ H.n + 1 = H2.n + 1 := by omega
      have htake : List.take (l.length * 5) cs = cs := by rw [← hcl, List.take_length]
      have happ := app_fresh (G := H2.push (Obj.row [] 0 true none)) (e := 30) (es := 5) (bs := 80) hl0 (by decide) cfl (by omega)
      have hle : l.length * 5 ≤ cs.length := by omega
      simp -implicitDefEqProofs only [h_n] at happ
      simp -implicitDefEqProofs only [c18_l0, ↓v_lenS, SB, POp.val, AOp.val, WOp.val, Lite.bin, intBin, strBin, eqv, eqMany, eq1, AV.asBool, AV.asInt, AV.asNat, AV.asPtr, AV.asStr, resVals, ResV.val, oneOr, wants, skipped, fillAt, putAt, capOf, optNat, bnd, Nat.reduceBEq, reduceIte, Nat.reduceAdd, Nat.reduceLeDiff, Nat.reduceEqDiff, Nat.reduceSub, Nat.reduceMul, Nat.reduceDiv, SOper.again, same, sameBlk, sameCap, Nat.reduceBneDiff, s_draw2, s_pair, k_pair, asunder, SOper.into, Bool.not_false, Bool.not_true, CL, DS, h1, h2, h3, h7, h8, h9, g0, g1, gk, z1, z2, z3, z4, z5, htake, happ, hcl, Int.lt_irrefl, hKe, k_blockE, call33, c33, gives_ret]
      generalize hX : Obj.row [AV.int IntKind.i64 k, AV.str t, AV.nils, AV.slice (Blk.new (H2.n + 1)) 0 l.length (Cap.gro 5), AV.int IntKind.i64 a] 0 false (some 30) = X
      generalize hY : Obj.row [AV.int IntKind.i64 k, AV.str t, AV.nils, vData l, AV.int IntKind.i64 a] 0 false (some 30) = Y
      have mG : H2.n < ((H2.push (Obj.row [] 0 true none)).push (Obj.row cs 5 false (some 30))).n := by simp only [h_n]; omega
      generalize hG : ((((H2.push (Obj.row [] 0 true none)).push (Obj.row cs 5 false (some 30))).put H.n Y).put H.n X).put (H.n + 1) X = G
      have lowG : HLow G := hG ▸ ((low2.push.push.put (by omega)).put (by rw [h_nput]; omega)).put (by simp only [h_nput]; omega)
      have kpG : HKeep (fun _ _ => False) H G := hG ▸ ((((kp2.pushed low).pushed low).own low (by omega) (by omega)).own low (by omega) (by rw [h_nput]; omega)).own low (by omega) (by simp only [h_nput]; omega)
      have gets : ∀ j o, H2.t.get j = some o → j ≠ H.n → j ≠ H.n + 1 → G.t.get j = some o := fun j o h n1 n2 => by
        have := low2 j o h
        rw [← hG, h_gput, if_neg n2, h_gput, if_neg n1, h_gput, if_neg n1, h_get, if_neg (by simp only [h_n]; omega), h_get, if_neg (by omega)]; exact h
      have gk' : G.t.get (H2.n + 1) = some (.row cs 5 false (some 30)) := by
        rw [← hG, h_gput, if_neg (by omega), h_gput, if_neg (by omega), h_gput, if_neg (by omega), h_get, if_pos (by simp only [h_n])]
      refine ⟨k, t, ms, l, a, _, cs, rfl, rfl, .inr ⟨hl0, hcl, H2.n + 1, rfl, by omega, gk'⟩, cfl, fun i hi => ?_, kpG, lowG⟩
      obtain ⟨u, u1, u2, u3⟩ := ones i hi
      refine ⟨u, u1, u2.keep fun j o hj ho => ?_, fun j o hj hb => ?_⟩
      · obtain ⟨cs', hr⟩ := u2.row hj
        refine gets j o ho (fun h => ?_) (fun h => ?_)
        · rw [h, g0] at hr; simp at hr
        · rw [h, g1] at hr; simp at hr
      · have := u2.lt low2 hj
        obtain ⟨o', m', c', he⟩ := hb
        simp only [AV.slice.injEq, Blk.new.injEq] at he
        omega
  · refine ⟨.nils, [], Acc.nil, rfl, fun i hi => by omega, low.push.push, ?_, ?_, ?_, ?_, ?_, ?_, ?_, ?_, (HKeep.push low).pushed low⟩
    any_goals simp -implicitDefEqProofs only [↓v_lenS, SB, POp.val, AOp.val, WOp.val, Lite.bin, intBin, strBin, eqv, eqMany, eq1, AV.asBool, AV.asInt, AV.asNat, AV.asPtr, AV.asStr, resVals, ResV.val, oneOr, wants, skipped, fillAt, putAt, capOf, optNat, bnd, Nat.reduceBEq, reduceIte, Nat.reduceAdd, Nat.reduceLeDiff, Nat.reduceEqDiff, Nat.reduceSub, Nat.reduceMul, Nat.reduceDiv, SOper.again, same, sameBlk, sameCap, Nat.reduceBneDiff, s_draw2, s_pair, k_pair, asunder, SOper.into, Bool.not_false, Bool.not_true]
    rfl

end Go.Lite
