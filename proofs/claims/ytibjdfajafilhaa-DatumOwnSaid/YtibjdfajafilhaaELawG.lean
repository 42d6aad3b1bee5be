/-
  DatumOwn by the interpreter (variant 'own').
-/
import Derived.Test.YtibjdfajafilhaaEOwn
namespace Go.Lite
open Go Go.Proofs
set_option maxRecDepth 100000
set_option linter.unusedSimpArgs false
set_option linter.unusedVariables false

theorem places_rf : ∀ d : D, d.places d = true := D.indA fun k t ms l a ih => by
  rw [D.places, D.placess_eq, zipAll_refl l ih, D.same_refl]
  simp

theorem put_get {cs : List AV} {p q : Nat} {x : AV} (hp : p < cs.length) (hq : q ≠ p) : (List.take p cs ++ [x] ++ List.drop (p + 1) cs)[q]? = cs[q]? := by
  have : List.take p cs ++ [x] ++ List.drop (p + 1) cs = cs.set p x := by
    rw [List.set_eq_take_append_cons_drop, if_pos hp, List.append_assoc]; rfl
  rw [this, List.getElem?_set_ne (by omega)]
theorem put_len {cs : List AV} {p : Nat} {x : AV} (hp : p < cs.length) : (List.take p cs ++ [x] ++ List.drop (p + 1) cs).length = cs.length := by
  simp only [List.length_append, List.length_take, List.length_drop, List.length_singleton]; omega

/-- what stands while a plain datum is changed -/
structure Chg (G : Heap) (n : Nat) (lv : AV) (cs : List AV) (ra rb rp : List AV) (pa pb pp : Nat) : Prop where
  a : G.t.get pa = some (.row ra 0 false (some 30))
  b : G.t.get pb = some (.row rb 0 false (some 30))
  p : G.t.get pp = some (.row rp 0 false (some 30))
  acc : Acc 0 G 30 5 n cs lv
  ones : Ones G cs n lv
  low : HLow G

/-- a part is changed, not its list -/
theorem Chg.main {G : Heap} {n : Nat} {lv : AV} {cs ra rb rp : List AV} {pa pb pp ke : Nat} (h : Chg G n lv cs ra rb rp pa pb pp) (hlv : lv = .slice (.new ke) 0 n (.gro 5)) {i c : Nat} (hi : i < n) (hc : c = 1) {x : AV} :
    Chg (G.put ke (.row (List.take (i * 5 + c) cs ++ [x] ++ List.drop (i * 5 + c + 1) cs) 5 false (some 30))) n lv (List.take (i * 5 + c) cs ++ [x] ++ List.drop (i * 5 + c + 1) cs) ra rb rp pa pb pp := by
  obtain ⟨ha, hb, hp, acc, ones, low⟩ := h
  rcases acc with ⟨h0, _, _⟩ | ⟨h0, hcl, k, hk, _, gk⟩
  · omega
  rw [hlv] at hk
  simp only [AV.slice.injEq, Blk.new.injEq] at hk
  obtain rfl : ke = k := hk.1
  have hpl : i * 5 + c < cs.length := by omega
  have box : ∀ j r, G.t.get j = some (.row r 0 false (some 30)) → (G.put ke (.row (List.take (i * 5 + c) cs ++ [x] ++ List.drop (i * 5 + c + 1) cs) 5 false (some 30))).t.get j = some (.row r 0 false (some 30)) := fun j r hj => by
    rw [h_gput, if_neg]
    · exact hj
    · rintro rfl; rw [gk] at hj; simp at hj
  refine ⟨box _ _ ha, box _ _ hb, box _ _ hp, .inr ⟨h0, by rw [put_len hpl]; exact hcl, ke, hlv, Nat.zero_le _, by rw [h_gput, if_pos rfl]⟩, fun i' hi' => ?_, low.put (low.lt gk)⟩
  obtain ⟨u, u1, u2, u3⟩ := ones i' hi'
  refine ⟨u, by rw [put_get hpl (by omega)]; exact u1, u2.keep fun j o hj ho => ?_, u3⟩
  rw [h_gput, if_neg]
  · exact ho
  · rintro rfl
    exact u3 _ o hj (by rw [hlv]; exact ⟨_, _, _, rfl⟩)

/-- a part's part is changed -/
theorem Chg.sub {G : Heap} {n : Nat} {lv : AV} {cs ra rb rp : List AV} {pa pb pp : Nat} (h : Chg G n lv cs ra rb rp pa pb pp) {i m j : Nat} {cj : List AV} (hi : i < n) (hu : cs[i * 5 + 3]? = some (.slice (.new j) 0 m (.gro 5))) (hj : G.t.get j = some (.row cj 5 false (some 30))) {q : Nat} {x : AV} (hq : q < cj.length) :
    Chg (G.put j (.row (List.take q cj ++ [x] ++ List.drop (q + 1) cj) 5 false (some 30))) n lv cs ra rb rp pa pb pp := by
  obtain ⟨ha, hb, hp, acc, ones, low⟩ := h
  have box : ∀ k r, G.t.get k = some (.row r 0 false (some 30)) → (G.put j (.row (List.take q cj ++ [x] ++ List.drop (q + 1) cj) 5 false (some 30))).t.get k = some (.row r 0 false (some 30)) := fun k r hk => by
    rw [h_gput, if_neg]
    · exact hk
    · rintro rfl; rw [hj] at hk; simp at hk
  have hd : ∀ o, ¬ blk lv j o := fun o => by
    obtain ⟨u, u1, u2, u3⟩ := ones i hi
    rw [hu] at u1
    simp only [Option.some.injEq] at u1
    exact u3 j o (by rw [← u1]; exact ⟨_, _, _, rfl⟩)
  refine ⟨box _ _ ha, box _ _ hb, box _ _ hp, acc.keep fun k o hk ho => ?_, fun i' hi' => ?_, low.put (low.lt hj)⟩
  · rw [h_gput, if_neg]
    rintro rfl
    exact hd o hk
  · obtain ⟨u, u1, u2, u3⟩ := ones i' hi'
    refine ⟨u, u1, ?_, u3⟩
    rcases u2 with h | ⟨j', c', n', h, h1, h2, h3, h4⟩
    · exact .inl h
    · by_cases he : j' = j
      · subst he
        rw [hj] at h2
        simp only [Option.some.injEq, Obj.row.injEq, and_true, true_and] at h2
        obtain rfl := h2
        exact .inr ⟨j', _, n', h, h1, by rw [h_gput, if_pos rfl], by rw [put_len hq]; exact h3, h4⟩
      · exact .inr ⟨j', c', n', h, h1, by rw [h_gput, if_neg he]; exact h2, h3, h4⟩

/-- the kinds of a part's parts -/
theorem own_l0 {n m i ke : Nat} {la : List D} {lv : AV} {cs ra rb : List AV} {pa pb pp : Nat} {s7 s6 : AV} {fr : Fr} {G : Heap} {KK : Ex → Fr → Heap → R} {Q : AV → Heap → Prop} (hi : i < la.length) (hn : la.length ≤ 60) (hlv : lv = .slice (.new ke) 0 la.length (.gro 5))
    (h : Chg G la.length lv cs ra rb [.int .i64 4, .str [], .nils, lv, .int .i64 0] pa pb pp) (hm : 1048580 ≤ m)
    (h6 : fr 6 = s6) (h7 : fr 7 = s7) (h8 : fr 8 = .ptr (.new pp) 0) (h9 : fr 9 = .int .i64 i) (h10 : fr 10 = .int .i64 (0 : Nat))
    (hK : ∀ (fr : Fr) (G : Heap), Chg G la.length lv cs ra rb [.int .i64 4, .str [], .nils, lv, .int .i64 0] pa pb pp → fr 6 = s6 → fr 7 = s7 → fr 8 = .ptr (.new pp) 0 → fr 9 = .int .i64 i → Gives (KK (.exit 2) fr G) Q) :
    Gives (loopR (callN P2 n) n c4_l0 m fr G KK) Q := by
  obtain ⟨u, u1, u2, u3⟩ := h.ones i hi
  have key : ∃ k : Nat, lenM u = some (.int .i64 (k : Nat)) ∧ k ≤ 1048576 ∧ (k = 0 ∨ ∃ j, u = .slice (.new j) 0 k (.gro 5)) := by
    rcases u2 with (h | h) | ⟨j, c, k, h, _, _, _, h4⟩
    · exact ⟨0, by rw [h]; rfl, by omega, .inl rfl⟩
    · exact ⟨0, by rw [h]; rfl, by omega, .inl rfl⟩
    · exact ⟨k, by rw [h]; rfl, h4, .inr ⟨j, h⟩⟩
  obtain ⟨k, hlen, hbk, hk⟩ := key
  refine loop_rounds k (fun q fr G => Chg G la.length lv cs ra rb [.int .i64 4, .str [], .nils, lv, .int .i64 0] pa pb pp ∧ fr 6 = s6 ∧ fr 7 = s7 ∧ fr 8 = .ptr (.new pp) 0 ∧ fr 9 = .int .i64 i ∧ fr 10 = .int .i64 (q : Nat)) ?_ ?_ m 0 _ _ (Nat.zero_le _) (by omega) ⟨h, h6, h7, h8, h9, h10⟩
  · rintro q fr G K' hq ⟨h, h6, h7, h8, h9, h10⟩ hKe hKr hK'
    obtain ⟨j, hu⟩ := hk.resolve_left (by omega)
    obtain ⟨v, v1, v2, v3⟩ := h.ones i hi
    rw [u1] at v1
    simp only [Option.some.injEq] at v1
    subst v1
    rcases v2 with (h' | h') | ⟨j', cj, k', h', _, gj, hcj, _⟩
    · rw [hu] at h'; cases h'
    · rw [hu] at h'; cases h'
    rw [hu] at h'
    simp only [AV.slice.injEq, Blk.new.injEq, true_and, and_true] at h'
    obtain ⟨rfl, rfl⟩ := h'
    have hqc : q * 5 < cj.length := by omega
    have hnx := h.sub hi (by rw [u1, hu]) gj (q := q * 5) (x := .int .i64 0) hqc
    have hlt : (q : Int) < (k : Int) := by omega
    have hw := wrap_succ (i := q) (n := k) hq (by omega)
    have hgp := h.p
    have hke : G.t.get ke = some (.row cs 5 false (some 30)) ∧ cs.length = la.length * 5 := by
      rcases h.acc with ⟨h0, _, _⟩ | ⟨h0, hcl, k2, hk2, _, gk2⟩
      · omega
      · rw [hlv] at hk2
        simp only [AV.slice.injEq, Blk.new.injEq] at hk2
        obtain rfl : ke = k2 := hk2.1
        exact ⟨gk2, hcl⟩
    obtain ⟨gke, hcl⟩ := hke
    have hle : q * 5 + 1 ≤ cj.length := by omega
    subst hu
    subst hlv
    simp -implicitDefEqProofs only [c4_l0, ↓v_lenS, SB, POp.val, AOp.val, WOp.val, Lite.bin, intBin, strBin, eqv, eqMany, eq1, AV.asBool, AV.asInt, AV.asNat, AV.asPtr, AV.asStr, resVals, ResV.val, oneOr, wants, skipped, fillAt, putAt, capOf, optNat, bnd, Nat.reduceBEq, reduceIte, Nat.reduceAdd, Nat.reduceLeDiff, Nat.reduceEqDiff, Nat.reduceSub, Nat.reduceMul, Nat.reduceDiv, SOper.again, same, sameBlk, sameCap, Nat.reduceBneDiff, s_draw2, s_pair, k_pair, asunder, SOper.into, Bool.not_false, Bool.not_true, h8, h9, h10, hgp, hi, gke, u1, hlen, hlt, hw, hq, gj, hle]
    refine hK' _ _ ⟨hnx, ?_, ?_, ?_, ?_, ?_⟩
    all_goals simp -implicitDefEqProofs only [↓v_lenS, SB, POp.val, AOp.val, WOp.val, Lite.bin, intBin, strBin, eqv, eqMany, eq1, AV.asBool, AV.asInt, AV.asNat, AV.asPtr, AV.asStr, resVals, ResV.val, oneOr, wants, skipped, fillAt, putAt, capOf, optNat, bnd, Nat.reduceBEq, reduceIte, Nat.reduceAdd, Nat.reduceLeDiff, Nat.reduceEqDiff, Nat.reduceSub, Nat.reduceMul, Nat.reduceDiv, SOper.again, same, sameBlk, sameCap, Nat.reduceBneDiff, s_draw2, s_pair, k_pair, asunder, SOper.into, Bool.not_false, Bool.not_true, h6, h7, h8, h9]
  · rintro fr G K' ⟨h, h6, h7, h8, h9, h10⟩ hKe hKr
    have hgp := h.p
    have hke : G.t.get ke = some (.row cs 5 false (some 30)) ∧ cs.length = la.length * 5 := by
      rcases h.acc with ⟨h0, _, _⟩ | ⟨h0, hcl, k2, hk2, _, gk2⟩
      · omega
      · rw [hlv] at hk2
        simp only [AV.slice.injEq, Blk.new.injEq] at hk2
        obtain rfl : ke = k2 := hk2.1
        exact ⟨gk2, hcl⟩
    obtain ⟨gke, hcl⟩ := hke
    subst hlv
    simp -implicitDefEqProofs only [c4_l0, ↓v_lenS, SB, POp.val, AOp.val, WOp.val, Lite.bin, intBin, strBin, eqv, eqMany, eq1, AV.asBool, AV.asInt, AV.asNat, AV.asPtr, AV.asStr, resVals, ResV.val, oneOr, wants, skipped, fillAt, putAt, capOf, optNat, bnd, Nat.reduceBEq, reduceIte, Nat.reduceAdd, Nat.reduceLeDiff, Nat.reduceEqDiff, Nat.reduceSub, Nat.reduceMul, Nat.reduceDiv, SOper.again, same, sameBlk, sameCap, Nat.reduceBneDiff, s_draw2, s_pair, k_pair, asunder, SOper.into, Bool.not_false, Bool.not_true, h8, h9, h10, hgp, hi, gke, u1, hlen, Int.lt_irrefl, hKe]
    refine hK _ _ h ?_ ?_ ?_ ?_
    all_goals simp -implicitDefEqProofs only [↓v_lenS, SB, POp.val, AOp.val, WOp.val, Lite.bin, intBin, strBin, eqv, eqMany, eq1, AV.asBool, AV.asInt, AV.asNat, AV.asPtr, AV.asStr, resVals, ResV.val, oneOr, wants, skipped, fillAt, putAt, capOf, optNat, bnd, Nat.reduceBEq, reduceIte, Nat.reduceAdd, Nat.reduceLeDiff, Nat.reduceEqDiff, Nat.reduceSub, Nat.reduceMul, Nat.reduceDiv, SOper.again, same, sameBlk, sameCap, Nat.reduceBneDiff, s_draw2, s_pair, k_pair, asunder, SOper.into, Bool.not_false, Bool.not_true, h6, h7, h8, h9]

set_option maxHeartbeats 4000000 in
/-- DatumOwn -/
theorem law4 (l : List Raw) (ns : List Int) (hl : l.length ≤ 9223372036854775807) (hf : Raw.fits l) : Ret P2 4 [vRaws l, vIntsF false ns] (.bool true) := by
  by_cases hfew : sizeR 21 l ≤ 60
  · have hc : Raw.cnts l ≤ 60 := by rw [← few_cnt 21 l hfew]; exact hfew
    obtain ⟨q1, q2, q3, q4⟩ := list_facts hc
    obtain ⟨m1, m2, m3, m4⟩ := marked_facts ns (.mk 4 [] [] (Raw.makes l) 0) 0
    have mk1 := marked16 false ns (.mk 4 [] [] (Raw.makes l) 0) 0 (by omega)
    have ha := all13 l (by omega)
    replace m4 := m4 q4
    have hml : (D.markeds ns (Raw.makes l) 1).1.length ≤ 60 := by rw [markeds_len, makes_len]; have := len_le_cnts l; omega
    have hA : ((D.mk 4 [] [] (Raw.makes l) 0).marked ns 0).1 = .mk 4 [] [] (D.markeds ns (Raw.makes l) 1).1 0 := by
      rw [D.marked]; simp
    rw [hA] at mk1 m4
    generalize ((D.mk 4 [] [] (Raw.makes l) 0).marked ns 0).2 = at1 at *
    generalize (D.markeds ns (Raw.makes l) 1).1 = la at *
    generalize Raw.makes l = ds at *
    clear hA m3 m1 m2
    have k1 := copyS (.mk 4 [] [] la 0) m4
    have p1 := plainO (.mk 4 [] [] la 0) m4
    have pl := places19 (.mk 4 [] [] la 0) (D.small.fit _ m4) (.mk 4 [] [] la 0)
    rw [places_rf] at pl
    refine Ret.of rfl (code4 _ _) rfl rfl (fun H => by simp -implicitDefEqProofs only [↓v_lenS, SB, POp.val, AOp.val, WOp.val, Lite.bin, intBin, strBin, eqv, eqMany, eq1, AV.asBool, AV.asInt, AV.asNat, AV.asPtr, AV.asStr, resVals, ResV.val, oneOr, wants, skipped, fillAt, putAt, capOf, optNat, bnd, Nat.reduceBEq, reduceIte, Nat.reduceAdd, Nat.reduceLeDiff, Nat.reduceEqDiff, Nat.reduceSub, Nat.reduceMul, Nat.reduceDiv, SOper.again, same, sameBlk, sameCap, Nat.reduceBneDiff, s_draw2, s_pair, k_pair, asunder, SOper.into, Bool.not_false, Bool.not_true, shutV_vRaws, shutV_vIntsF]) ?_
    refine (known11.and ((few12 l hl hf).and (ha.and (mk1.and (k1.and (p1.and (pl.and (Ev.ge 1048600)))))))).mono fun n hn H => ?_
    obtain ⟨e11, e12, e13, em1, k1, p1, pl, hge⟩ := hn
    rw [decide_eq_true hfew] at e12
    simp only [D.v_mk, vInts_nil] at em1 k1 p1 pl
    simp -implicitDefEqProofs only [c4, ↓v_lenS, SB, POp.val, AOp.val, WOp.val, Lite.bin, intBin, strBin, eqv, eqMany, eq1, AV.asBool, AV.asInt, AV.asNat, AV.asPtr, AV.asStr, resVals, ResV.val, oneOr, wants, skipped, fillAt, putAt, capOf, optNat, bnd, Nat.reduceBEq, reduceIte, Nat.reduceAdd, Nat.reduceLeDiff, Nat.reduceEqDiff, Nat.reduceSub, Nat.reduceMul, Nat.reduceDiv, SOper.again, same, sameBlk, sameCap, Nat.reduceBneDiff, s_draw2, s_pair, k_pair, asunder, SOper.into, Bool.not_false, Bool.not_true, CL, e11, e12, shutV_vRaws, e13, DS, softV_some shutV_vIntsF]
    generalize hG0 : (H.bare.push (Obj.row [AV.int IntKind.i64 0] 0 false (some 3))).put 0 (Obj.row [AV.int IntKind.i64 0] 0 false (some 3)) = G0
    have low0 : HLow G0 := hG0 ▸ HLow.bare.push.put (by simp [h_n, h_nbare])
    have g00 : G0.t.get 0 = some (.row [.int .i64 (0 : Nat)] 0 false (some 3)) := by rw [← hG0, h_gput, if_pos rfl]; rfl
    clear hG0
    refine gives_call (em1 G0 0 (some 3) low0 g00) ?_
    rintro v H1 ⟨rfl, g10, kp1⟩
    have low1 := kp1.low low0
    have n1 := low1.lt g10
    have z1 : ¬ H1.n = H1.n + 1 := by omega
    simp -implicitDefEqProofs only [↓v_lenS, SB, POp.val, AOp.val, WOp.val, Lite.bin, intBin, strBin, eqv, eqMany, eq1, AV.asBool, AV.asInt, AV.asNat, AV.asPtr, AV.asStr, resVals, ResV.val, oneOr, wants, skipped, fillAt, putAt, capOf, optNat, bnd, Nat.reduceBEq, reduceIte, Nat.reduceAdd, Nat.reduceLeDiff, Nat.reduceEqDiff, Nat.reduceSub, Nat.reduceMul, Nat.reduceDiv, SOper.again, same, sameBlk, sameCap, Nat.reduceBneDiff, s_draw2, s_pair, k_pair, asunder, SOper.into, Bool.not_false, Bool.not_true, CL, DS, k1, k_call3S, z1]
    generalize hG1 : (((H1.push (Obj.row [AV.int IntKind.i64 0, AV.str [], AV.nils, AV.nils, AV.int IntKind.i64 0] 0 false (some 30))).put H1.n (Obj.row [AV.int IntKind.i64 4, AV.str [], AV.lst 0 0 true [], vData la, AV.int IntKind.i64 0] 0 false (some 30))).push (Obj.row [AV.int IntKind.i64 0, AV.str [], AV.nils, AV.nils, AV.int IntKind.i64 0] 0 false (some 30))).put (H1.n + 1) (Obj.row [AV.int IntKind.i64 4, AV.str [], AV.lst 0 0 true [], vData la, AV.int IntKind.i64 0] 0 false (some 30)) = G1
    have lowG1 : HLow G1 := hG1 ▸ (low1.push.put (by simp [h_n])).push.put (by simp only [h_n, h_nput]; omega)
    have ga1 : G1.t.get H1.n = some (Obj.row [AV.int IntKind.i64 4, AV.str [], AV.lst 0 0 true [], vData la, AV.int IntKind.i64 0] 0 false (some 30)) := by rw [← hG1, h_gput, if_neg z1, h_get, if_neg (by simp only [h_n, h_nput]; omega), h_gput, if_pos rfl]
    have gb1 : G1.t.get (H1.n + 1) = some (Obj.row [AV.int IntKind.i64 4, AV.str [], AV.lst 0 0 true [], vData la, AV.int IntKind.i64 0] 0 false (some 30)) := by rw [← hG1, h_gput, if_pos rfl]
    clear hG1
    generalize H1.n + 1 = pb at *
    generalize H1.n = pa at *
    refine gives_call (p1 G1 lowG1) ?_
    rintro v H2 ⟨k', t', ms', l', a', lv, cs, hd, rfl, acc, cfl, ones, kp2, low2⟩
    simp only [D.mk.injEq] at hd
    obtain ⟨rfl, rfl, rfl, rfl, rfl⟩ := hd
    have ga2 := kp2.get _ _ ga1 (fun h => h)
    have gb2 := kp2.get _ _ gb1 (fun h => h)
    have na2 := low2.lt ga2
    have nb2 := low2.lt gb2
    have flv := acc.flat
    simp -implicitDefEqProofs only [↓v_lenS, SB, POp.val, AOp.val, WOp.val, Lite.bin, intBin, strBin, eqv, eqMany, eq1, AV.asBool, AV.asInt, AV.asNat, AV.asPtr, AV.asStr, resVals, ResV.val, oneOr, wants, skipped, fillAt, putAt, capOf, optNat, bnd, Nat.reduceBEq, reduceIte, Nat.reduceAdd, Nat.reduceLeDiff, Nat.reduceEqDiff, Nat.reduceSub, Nat.reduceMul, Nat.reduceDiv, SOper.again, same, sameBlk, sameCap, Nat.reduceBneDiff, s_draw2, s_pair, k_pair, asunder, SOper.into, Bool.not_false, Bool.not_true, CL, DS, flv]
    have chg : Chg ((H2.push (Obj.row [AV.int IntKind.i64 0, AV.str [], AV.nils, AV.nils, AV.int IntKind.i64 0] 0 false (some 30))).put H2.n (Obj.row [AV.int IntKind.i64 4, AV.str [], AV.nils, lv, AV.int IntKind.i64 0] 0 false (some 30))) la.length lv cs [.int .i64 4, .str [], .lst 0 0 true [], vData la, .int .i64 0] [.int .i64 4, .str [], .lst 0 0 true [], vData la, .int .i64 0] [.int .i64 4, .str [], .nils, lv, .int .i64 0] pa pb H2.n := by
      have gets : ∀ j o, H2.t.get j = some o → ((H2.push (Obj.row [AV.int IntKind.i64 0, AV.str [], AV.nils, AV.nils, AV.int IntKind.i64 0] 0 false (some 30))).put H2.n (Obj.row [AV.int IntKind.i64 4, AV.str [], AV.nils, lv, AV.int IntKind.i64 0] 0 false (some 30))).t.get j = some o := fun j o h => by
        have := low2 j o h
        rw [h_gput, if_neg (by omega), h_get, if_neg (by omega)]; exact h
      exact ⟨gets _ _ ga2, gets _ _ gb2, by rw [h_gput, if_pos rfl], (acc.down (Nat.zero_le _)).keep fun j o _ hj => (gets _ _ hj).trans hj.symm, ones.keep gets, low2.push.put (by simp [h_n])⟩
    generalize (H2.push (Obj.row [AV.int IntKind.i64 0, AV.str [], AV.nils, AV.nils, AV.int IntKind.i64 0] 0 false (some 30))).put H2.n (Obj.row [AV.int IntKind.i64 4, AV.str [], AV.nils, lv, AV.int IntKind.i64 0] 0 false (some 30)) = G3 at *
    generalize H2.n = pp at *
    have hkl : la.length = 0 ∨ ∃ ke, lv = .slice (.new ke) 0 la.length (.gro 5) := by
      rcases acc with ⟨h0, _, _⟩ | ⟨h0, _, k, hk, _⟩
      · exact .inl h0
      · exact .inr ⟨k, hk⟩
    have hlen := acc.len
    clear acc ones ga2 gb2 na2 nb2 kp2 low2 ga1 gb1 lowG1 kp1 em1 p1
    refine loop_rounds la.length (fun i fr G => ∃ cs, Chg G la.length lv cs [.int .i64 4, .str [], .lst 0 0 true [], vData la, .int .i64 0] [.int .i64 4, .str [], .lst 0 0 true [], vData la, .int .i64 0] [.int .i64 4, .str [], .nils, lv, .int .i64 0] pa pb pp ∧ fr 6 = .ptr (.new pa) 0 ∧ fr 7 = .ptr (.new pb) 0 ∧ fr 8 = .ptr (.new pp) 0 ∧ fr 9 = .int .i64 (i : Nat)) ?_ ?_ n 0 _ _ (by omega) (by omega) ?_
    · rintro i fr G K' hi ⟨cs, chg, h6, h7, h8, h9⟩ hKe hKr hK
      obtain ⟨ke, hlv⟩ := hkl.resolve_left (by omega)
      have hgp := chg.p
      obtain ⟨gke, hcl⟩ : G.t.get ke = some (.row cs 5 false (some 30)) ∧ cs.length = la.length * 5 := by
        rcases chg.acc with ⟨h0, _, _⟩ | ⟨h0, hcl, k2, hk2, _, gk2⟩
        · omega
        · rw [hlv] at hk2
          simp only [AV.slice.injEq, Blk.new.injEq] at hk2
          obtain rfl : ke = k2 := hk2.1
          exact ⟨gk2, hcl⟩
      have hnx := chg.main hlv hi rfl (x := .str [113])
      have hlt : (i : Int) < (la.length : Int) := by omega
      have hw := wrap_succ (i := i) (n := la.length) hi (by omega)
      have hle : i * 5 + 1 + 1 ≤ cs.length := by omega
      subst hlv
      simp -implicitDefEqProofs only [c4_l1, ↓v_lenS, SB, POp.val, AOp.val, WOp.val, Lite.bin, intBin, strBin, eqv, eqMany, eq1, AV.asBool, AV.asInt, AV.asNat, AV.asPtr, AV.asStr, resVals, ResV.val, oneOr, wants, skipped, fillAt, putAt, capOf, optNat, bnd, Nat.reduceBEq, reduceIte, Nat.reduceAdd, Nat.reduceLeDiff, Nat.reduceEqDiff, Nat.reduceSub, Nat.reduceMul, Nat.reduceDiv, SOper.again, same, sameBlk, sameCap, Nat.reduceBneDiff, s_draw2, s_pair, k_pair, asunder, SOper.into, Bool.not_false, Bool.not_true, CL, DS, h8, h9, hgp, hi, gke, hlt, hle, hlen]
      refine own_l0 (ke := ke) (s6 := .ptr (.new pa) 0) (s7 := .ptr (.new pb) 0) hi hml rfl hnx (by omega) ?_ ?_ ?_ ?_ ?_ ?_
      · simp -implicitDefEqProofs only [↓v_lenS, SB, POp.val, AOp.val, WOp.val, Lite.bin, intBin, strBin, eqv, eqMany, eq1, AV.asBool, AV.asInt, AV.asNat, AV.asPtr, AV.asStr, resVals, ResV.val, oneOr, wants, skipped, fillAt, putAt, capOf, optNat, bnd, Nat.reduceBEq, reduceIte, Nat.reduceAdd, Nat.reduceLeDiff, Nat.reduceEqDiff, Nat.reduceSub, Nat.reduceMul, Nat.reduceDiv, SOper.again, same, sameBlk, sameCap, Nat.reduceBneDiff, s_draw2, s_pair, k_pair, asunder, SOper.into, Bool.not_false, Bool.not_true, h6]
      · simp -implicitDefEqProofs only [↓v_lenS, SB, POp.val, AOp.val, WOp.val, Lite.bin, intBin, strBin, eqv, eqMany, eq1, AV.asBool, AV.asInt, AV.asNat, AV.asPtr, AV.asStr, resVals, ResV.val, oneOr, wants, skipped, fillAt, putAt, capOf, optNat, bnd, Nat.reduceBEq, reduceIte, Nat.reduceAdd, Nat.reduceLeDiff, Nat.reduceEqDiff, Nat.reduceSub, Nat.reduceMul, Nat.reduceDiv, SOper.again, same, sameBlk, sameCap, Nat.reduceBneDiff, s_draw2, s_pair, k_pair, asunder, SOper.into, Bool.not_false, Bool.not_true, h7]
      · simp -implicitDefEqProofs only [↓v_lenS, SB, POp.val, AOp.val, WOp.val, Lite.bin, intBin, strBin, eqv, eqMany, eq1, AV.asBool, AV.asInt, AV.asNat, AV.asPtr, AV.asStr, resVals, ResV.val, oneOr, wants, skipped, fillAt, putAt, capOf, optNat, bnd, Nat.reduceBEq, reduceIte, Nat.reduceAdd, Nat.reduceLeDiff, Nat.reduceEqDiff, Nat.reduceSub, Nat.reduceMul, Nat.reduceDiv, SOper.again, same, sameBlk, sameCap, Nat.reduceBneDiff, s_draw2, s_pair, k_pair, asunder, SOper.into, Bool.not_false, Bool.not_true, h8]
      · simp -implicitDefEqProofs only [↓v_lenS, SB, POp.val, AOp.val, WOp.val, Lite.bin, intBin, strBin, eqv, eqMany, eq1, AV.asBool, AV.asInt, AV.asNat, AV.asPtr, AV.asStr, resVals, ResV.val, oneOr, wants, skipped, fillAt, putAt, capOf, optNat, bnd, Nat.reduceBEq, reduceIte, Nat.reduceAdd, Nat.reduceLeDiff, Nat.reduceEqDiff, Nat.reduceSub, Nat.reduceMul, Nat.reduceDiv, SOper.again, same, sameBlk, sameCap, Nat.reduceBneDiff, s_draw2, s_pair, k_pair, asunder, SOper.into, Bool.not_false, Bool.not_true, h9]
      · simp -implicitDefEqProofs only [↓v_lenS, SB, POp.val, AOp.val, WOp.val, Lite.bin, intBin, strBin, eqv, eqMany, eq1, AV.asBool, AV.asInt, AV.asNat, AV.asPtr, AV.asStr, resVals, ResV.val, oneOr, wants, skipped, fillAt, putAt, capOf, optNat, bnd, Nat.reduceBEq, reduceIte, Nat.reduceAdd, Nat.reduceLeDiff, Nat.reduceEqDiff, Nat.reduceSub, Nat.reduceMul, Nat.reduceDiv, SOper.again, same, sameBlk, sameCap, Nat.reduceBneDiff, s_draw2, s_pair, k_pair, asunder, SOper.into, Bool.not_false, Bool.not_true]; rfl
      · rintro fr G chg h6 h7 h8 h9
        simp -implicitDefEqProofs only [↓v_lenS, SB, POp.val, AOp.val, WOp.val, Lite.bin, intBin, strBin, eqv, eqMany, eq1, AV.asBool, AV.asInt, AV.asNat, AV.asPtr, AV.asStr, resVals, ResV.val, oneOr, wants, skipped, fillAt, putAt, capOf, optNat, bnd, Nat.reduceBEq, reduceIte, Nat.reduceAdd, Nat.reduceLeDiff, Nat.reduceEqDiff, Nat.reduceSub, Nat.reduceMul, Nat.reduceDiv, SOper.again, same, sameBlk, sameCap, Nat.reduceBneDiff, s_draw2, s_pair, k_pair, asunder, SOper.into, Bool.not_false, Bool.not_true, k_blockE, h9, hw]
        refine hK _ _ ⟨_, chg, ?_, ?_, ?_, ?_⟩
        all_goals simp -implicitDefEqProofs only [↓v_lenS, SB, POp.val, AOp.val, WOp.val, Lite.bin, intBin, strBin, eqv, eqMany, eq1, AV.asBool, AV.asInt, AV.asNat, AV.asPtr, AV.asStr, resVals, ResV.val, oneOr, wants, skipped, fillAt, putAt, capOf, optNat, bnd, Nat.reduceBEq, reduceIte, Nat.reduceAdd, Nat.reduceLeDiff, Nat.reduceEqDiff, Nat.reduceSub, Nat.reduceMul, Nat.reduceDiv, SOper.again, same, sameBlk, sameCap, Nat.reduceBneDiff, s_draw2, s_pair, k_pair, asunder, SOper.into, Bool.not_false, Bool.not_true, h6, h7, h8]
    · rintro fr G K' ⟨cs, chg, h6, h7, h8, h9⟩ hKe hKr
      have ⟨ha, hb, hp, _, _, _⟩ := chg
      simp -implicitDefEqProofs only [c4_l1, ↓v_lenS, SB, POp.val, AOp.val, WOp.val, Lite.bin, intBin, strBin, eqv, eqMany, eq1, AV.asBool, AV.asInt, AV.asNat, AV.asPtr, AV.asStr, resVals, ResV.val, oneOr, wants, skipped, fillAt, putAt, capOf, optNat, bnd, Nat.reduceBEq, reduceIte, Nat.reduceAdd, Nat.reduceLeDiff, Nat.reduceEqDiff, Nat.reduceSub, Nat.reduceMul, Nat.reduceDiv, SOper.again, same, sameBlk, sameCap, Nat.reduceBneDiff, s_draw2, s_pair, k_pair, asunder, SOper.into, Bool.not_false, Bool.not_true, CL, DS, h6, h7, h8, h9, ha, hb, hp, hlen, Int.lt_irrefl, hKe, k_blockE, pl, Ends, gives_ret]
      exact ⟨_, rfl⟩
    · refine ⟨cs, chg, ?_, ?_, ?_, ?_⟩
      all_goals simp -implicitDefEqProofs only [↓v_lenS, SB, POp.val, AOp.val, WOp.val, Lite.bin, intBin, strBin, eqv, eqMany, eq1, AV.asBool, AV.asInt, AV.asNat, AV.asPtr, AV.asStr, resVals, ResV.val, oneOr, wants, skipped, fillAt, putAt, capOf, optNat, bnd, Nat.reduceBEq, reduceIte, Nat.reduceAdd, Nat.reduceLeDiff, Nat.reduceEqDiff, Nat.reduceSub, Nat.reduceMul, Nat.reduceDiv, SOper.again, same, sameBlk, sameCap, Nat.reduceBneDiff, s_draw2, s_pair, k_pair, asunder, SOper.into, Bool.not_false, Bool.not_true]
      rfl
  · refine Ret.of rfl (code4 _ _) rfl rfl (fun H => by simp -implicitDefEqProofs only [↓v_lenS, SB, POp.val, AOp.val, WOp.val, Lite.bin, intBin, strBin, eqv, eqMany, eq1, AV.asBool, AV.asInt, AV.asNat, AV.asPtr, AV.asStr, resVals, ResV.val, oneOr, wants, skipped, fillAt, putAt, capOf, optNat, bnd, Nat.reduceBEq, reduceIte, Nat.reduceAdd, Nat.reduceLeDiff, Nat.reduceEqDiff, Nat.reduceSub, Nat.reduceMul, Nat.reduceDiv, SOper.again, same, sameBlk, sameCap, Nat.reduceBneDiff, s_draw2, s_pair, k_pair, asunder, SOper.into, Bool.not_false, Bool.not_true, shutV_vRaws, shutV_vIntsF]) ?_
    refine (known11.and (few12 l hl hf)).mono fun n hn H => ?_
    obtain ⟨e11, e12⟩ := hn
    rw [decide_eq_false hfew] at e12
    simp -implicitDefEqProofs only [c4, ↓v_lenS, SB, POp.val, AOp.val, WOp.val, Lite.bin, intBin, strBin, eqv, eqMany, eq1, AV.asBool, AV.asInt, AV.asNat, AV.asPtr, AV.asStr, resVals, ResV.val, oneOr, wants, skipped, fillAt, putAt, capOf, optNat, bnd, Nat.reduceBEq, reduceIte, Nat.reduceAdd, Nat.reduceLeDiff, Nat.reduceEqDiff, Nat.reduceSub, Nat.reduceMul, Nat.reduceDiv, SOper.again, same, sameBlk, sameCap, Nat.reduceBneDiff, s_draw2, s_pair, k_pair, asunder, SOper.into, Bool.not_false, Bool.not_true, CL, e11, e12, shutV_vRaws, Ends, gives_ret]
    exact ⟨_, rfl⟩

end Go.Lite
