/-
  Copies: a datum by itself, its list and its marks in rows of their own.
-/
import Derived.Test.YtibjdfajafilhaaEPureA
namespace Go.Lite
open Go Go.Proofs
set_option maxRecDepth 100000
set_option linter.unusedSimpArgs false
set_option linter.unusedVariables false

/-- a list in a row of its own, or none -/
def Lie (H : Heap) (es n : Nat) (cells : List AV) (v : AV) : Prop :=
  (n = 0 ∧ cells = [] ∧ (v = .nils ∨ v = .lst 0 0 true [])) ∨ (n ≠ 0 ∧ cells.length = n * es ∧ ∃ k fz ty, v = .slice (.new k) 0 n (.gro es) ∧ H.t.get k = some (.row cells es fz ty))

/-- rows may have been frozen, no more -/
structure Froz (H H' : Heap) : Prop where
  n : H'.n = H.n
  row : ∀ j cs es fz ty, H.t.get j = some (.row cs es fz ty) → ∃ fz', H'.t.get j = some (.row cs es fz' ty)
  box : ∀ j cs fz ty, H.t.get j = some (.row cs 0 fz ty) → H'.t.get j = some (.row cs 0 fz ty)
  low : HLow H → HLow H'

theorem Froz.refl {H : Heap} : Froz H H := ⟨rfl, fun j cs es fz ty h => ⟨fz, h⟩, fun _ _ _ _ h => h, fun h => h⟩
theorem Froz.trans {A B C : Heap} (h : Froz A B) (k : Froz B C) : Froz A C :=
  ⟨k.n.trans h.n, fun j cs es fz ty hj => by obtain ⟨f1, h1⟩ := h.row j cs es fz ty hj; exact k.row j cs es f1 ty h1, fun j cs fz ty hj => k.box j cs fz ty (h.box j cs fz ty hj), fun l => k.low (h.low l)⟩

theorem Lie.flat {H : Heap} {es n : Nat} {cells : List AV} {v : AV} (h : Lie H es n cells v) : v.flat = true := by
  rcases h with ⟨_, _, rfl | rfl⟩ | ⟨_, _, k, fz, ty, rfl, _⟩ <;> rfl
theorem Lie.len {H : Heap} {es n : Nat} {cells : List AV} {v : AV} (h : Lie H es n cells v) : lenM v = some (.int .i64 n) := by
  rcases h with ⟨rfl, _, rfl | rfl⟩ | ⟨_, _, k, fz, ty, rfl, _⟩ <;> rfl
theorem Lie.of {N : Nat} {H : Heap} {e es n : Nat} {cells : List AV} {v : AV} (h : Acc N H e es n cells v) : Lie H es n cells v := by
  rcases h with ⟨h1, h2, h3⟩ | ⟨h1, h2, k, h3, _, h4⟩
  · exact .inl ⟨h1, h2, .inl h3⟩
  · exact .inr ⟨h1, h2, k, _, _, h3, h4⟩
theorem Lie.froz {H H' : Heap} {es n : Nat} {cells : List AV} {v : AV} (h : Lie H es n cells v) (f : Froz H H') : Lie H' es n cells v := by
  rcases h with h | ⟨h1, h2, k, fz, ty, h3, h4⟩
  · exact .inl h
  · obtain ⟨fz', h5⟩ := f.row _ _ _ _ _ h4
    exact .inr ⟨h1, h2, k, fz', ty, h3, h5⟩
theorem Lie.keep {H H' : Heap} {es n : Nat} {cells : List AV} {v : AV} (h : Lie H es n cells v) (k : ∀ j o, blk v j o → H.t.get j = some o → H'.t.get j = some o) : Lie H' es n cells v := by
  rcases h with h | ⟨h1, h2, j, fz, ty, rfl, h4⟩
  · exact .inl h
  · exact .inr ⟨h1, h2, j, fz, ty, rfl, k j _ ⟨_, _, _, rfl⟩ h4⟩

theorem Lie.shutT {H : Heap} {es n d : Nat} {cells cells' : List AV} {v : AV} (h : Lie H es n cells v) (hes : es ≠ 0) (h0 : n = 0 → cells' = []) (hst : ∀ H, mapHM (shutC d) cells H = some (cells', H)) : ∃ H', shutC (d + 1) v H = some (.L true es cells' n, H') ∧ Froz H H' := by
  rcases h with ⟨rfl, rfl, rfl | rfl⟩ | ⟨h1, h2, k, fz, ty, rfl, h3⟩
  · rw [h0 rfl]; exact ⟨H, rfl, .refl⟩
  · rw [h0 rfl]; exact ⟨H, rfl, .refl⟩
  · refine ⟨H.put k (.row cells es true ty), ?_, ⟨rfl, fun j cs es' f t hj => ?_, fun j cs f t hj => ?_, fun l => l.put (l k _ h3)⟩⟩
    · simp only [shutC, h3, shutRow, List.drop_zero, Cap.es]
      have ht : cells.take (n * es) = cells := by rw [← h2, List.take_length]
      rw [ht, if_pos ⟨h2, .inr hes⟩, hst]
      simp only [Option.map_some]
      cases n with
      | zero => exact absurd rfl h1
      | succ n => rfl
    · rw [h_gput]
      split
      · rename_i e
        subst e
        rw [h3] at hj
        simp only [Option.some.injEq, Obj.row.injEq] at hj
        obtain ⟨rfl, rfl, _, rfl⟩ := hj
        exact ⟨_, rfl⟩
      · exact ⟨_, hj⟩
    · rw [h_gput, if_neg]
      · exact hj
      · rintro rfl
        rw [h3] at hj
        simp only [Option.some.injEq, Obj.row.injEq] at hj
        exact hes hj.2.1

theorem Lie.shut {H : Heap} {es n d : Nat} {cells : List AV} {v : AV} (h : Lie H es n cells v) (hes : es ≠ 0) (hst : Still cells) : ∃ H', shutC (d + 1) v H = some (.L true es cells n, H') ∧ Froz H H' := by
  refine h.shutT hes (fun h0 => ?_) (hst.map d)
  rcases h with ⟨_, h2, _⟩ | ⟨h1, _⟩
  · exact h2
  · exact absurd h0 h1

/-- a datum whose lists lie in rows -/
theorem agg_shut {H : Heap} {k a : Int} {t : List Nat} {ms : List Int} {l : List D} {mv lv : AV} (h1 : Lie H 1 ms.length (ms.flatMap int1) mv) (h2 : Lie H 5 l.length (l.flatMap D.cells) lv) :
    ∃ H', shutV (.agg [.int .i64 k, .str t, mv, lv, .int .i64 a]) H = some ((D.mk k t ms l a).v, H') ∧ Froz H H' := by
  obtain ⟨H1, e1, f1⟩ := h1.shut (d := 63) (by decide) (Still.flat int1_still _)
  obtain ⟨H2, e2, f2⟩ := (h2.froz f1).shut (d := 63) (by decide) (Still.flat D.still _)
  refine ⟨H2, ?_, f1.trans f2⟩
  rw [shutV_agg, D.v_mk]
  simp only [mapHM_cons, mapHM_nil, shutC_int, shutC_str, Option.bind_some, Option.map_some, e1, e2]
  rfl

theorem Acc.down {N M : Nat} {H : Heap} {e es n : Nat} {cells : List AV} {v : AV} (h : Acc N H e es n cells v) (hM : M ≤ N) : Acc M H e es n cells v := by
  rcases h with h | ⟨h1, h2, k, h3, h4, h5⟩
  · exact .inl h
  · exact .inr ⟨h1, h2, k, h3, by omega, h5⟩
theorem Acc.ge {N : Nat} {H : Heap} {e es n : Nat} {cells : List AV} {v : AV} (h : Acc N H e es n cells v) {j : Nat} {o : Obj} (hb : blk v j o) : N ≤ j := by
  obtain ⟨o', m, c, he⟩ := hb
  rcases h with ⟨_, _, h⟩ | ⟨_, _, k, h, h4, _⟩
  · rw [h] at he; cases he
  · rw [h] at he
    simp only [AV.slice.injEq, Blk.new.injEq] at he
    omega
theorem Lie.lt {H : Heap} {es n : Nat} {cells : List AV} {v : AV} (h : Lie H es n cells v) (low : HLow H) {j : Nat} {o : Obj} (hb : blk v j o) : j < H.n := by
  obtain ⟨o', m, c, he⟩ := hb
  rcases h with ⟨_, _, h | h⟩ | ⟨_, _, k, fz, ty, h, h4⟩
  · rw [h] at he; cases he
  · rw [h] at he; cases he
  · rw [h] at he
    simp only [AV.slice.injEq, Blk.new.injEq] at he
    rw [← he.1]
    exact low.lt h4

/-- .. cell by cell -/
theorem cells_shut {H : Heap} {ms : List Int} {l : List D} {mv lv : AV} (h1 : Lie H 1 ms.length (ms.flatMap int1) mv) (h2 : Lie H 5 l.length (l.flatMap D.cells) lv) :
    ∃ H1 H2, shutC 64 mv H = some (vInts ms, H1) ∧ shutC 64 lv H1 = some (vData l, H2) ∧ Froz H H2 := by
  obtain ⟨H1, e1, f1⟩ := h1.shut (d := 63) (by decide) (Still.flat int1_still _)
  obtain ⟨H2, e2, f2⟩ := (h2.froz f1).shut (d := 63) (by decide) (Still.flat D.still _)
  exact ⟨H1, H2, e1, e2, f1.trans f2⟩

noncomputable def Q2 : Prg := P2.seal 17
theorem clq17 {n : Nat} {caps xs : List AV} {H : Heap} : callV (callN Q2 n) (.func 17 caps) xs H = callS Q2 n 17 (mapHM shutV (xs ++ caps) H) := callV_s rfl rfl

/-- a told list, appended to none -/
theorem app_told {G : Heap} (low : HLow G) {e es bs n : Nat} {cells : List AV} (hes : es ≠ 0) (hl : cells.length = n * es) (hfl : cells.all AV.flat = true) (hb : n * bs ≤ 1099511627776 ∧ n ≤ 1099511627776) :
    ∃ v G', appendOf e es bs G (.lst 0 0 true []) (n, cells) = some (v, G') ∧ Lie G' es n cells v ∧ v.flat = true ∧ HLow G' ∧ G.n ≤ G'.n ∧ (∀ j o, blk v j o → G.n ≤ j) ∧ ∀ j o, G.t.get j = some o → G'.t.get j = some o := by
  unfold appendOf
  rw [if_neg (by simp [hes, hfl])]
  simp only []
  by_cases h0 : n = 0
  · rw [if_pos h0]
    subst h0
    rw [Nat.zero_mul] at hl
    obtain rfl := List.eq_nil_of_length_eq_zero hl
    refine ⟨_, _, rfl, .inl ⟨rfl, rfl, .inr rfl⟩, rfl, low, Nat.le_refl _, ?_, fun j o h => h⟩
    rintro j o ⟨o', m, c, h⟩; cases h
  · rw [Nat.zero_add, if_neg h0, if_pos ⟨.inr trivial, trivial, by omega, by omega⟩]
    simp only [List.nil_append]
    refine ⟨_, _, rfl, .inr ⟨h0, hl, G.n, _, _, rfl, by rw [h_get, if_pos rfl]⟩, rfl, low.push, by rw [h_n]; omega, ?_, fun j o h => by rw [h_get, if_neg (by have := low j o h; omega)]; exact h⟩
    rintro j o ⟨o', m, c, h⟩
    simp only [AV.slice.injEq, Blk.new.injEq] at h
    omega

/-- what a copy is -/
def Copied (H : Heap) (d : D) (v : AV) (H' : Heap) : Prop := ∃ k t ms l a mv lv, d = .mk k t ms l a ∧ v = .agg [.int .i64 k, .str t, mv, lv, .int .i64 a] ∧ Lie H' 1 ms.length (ms.flatMap int1) mv ∧ Acc H.n H' 30 5 l.length (l.flatMap D.cells) lv ∧
  (∀ j o, blk mv j o → H.n ≤ j) ∧ (∀ j o, blk mv j o → ¬ blk lv j o) ∧ HKeep (fun _ _ => False) H H' ∧ HLow H'

theorem body17 (k : Int) (t : List Nat) (ms : List Int) (l : List D) (a : Int) (hms : ms.length ≤ 1048576) (hls : l.length ≤ 1048576) (ih : ∀ d ∈ l, Ret Q2 17 [d.v] d.v) :
    Ev fun n => ∀ H, HLow H → Gives (c17.body.run (callN Q2 n) n (initFr [(D.mk k t ms l a).v]) H (finish c17.res)) fun v H' => Copied H (.mk k t ms l a) v H' := by
  refine ((Ev.all l ih).and (Ev.ge (l.length + 1))).mono fun n hn H low => ?_
  obtain ⟨ihn, hge⟩ := hn
  rw [D.v_mk]
  have hcl : (ms.flatMap int1).length = ms.length * 1 := flat_len int1_len ms
  have hfl : (ms.flatMap int1).all AV.flat = true := by
    rw [List.all_eq_true]; intro x hx
    obtain ⟨b, _, hb⟩ := List.mem_flatMap.1 hx
    simp only [int1, List.mem_singleton] at hb
    subst hb; rfl
  have htk : ∀ G : Heap, taken 1 G (vInts ms) = some (ms.length, ms.flatMap int1) := fun G => taken_vList
  simp -implicitDefEqProofs only [c17, ↓v_lenS, SB, POp.val, AOp.val, WOp.val, Lite.bin, intBin, strBin, eqv, eqMany, eq1, AV.asBool, AV.asInt, AV.asNat, AV.asPtr, AV.asStr, resVals, ResV.val, oneOr, wants, skipped, fillAt, putAt, capOf, optNat, bnd, Nat.reduceBEq, reduceIte, Nat.reduceAdd, Nat.reduceLeDiff, Nat.reduceEqDiff, Nat.reduceSub, Nat.reduceMul, Nat.reduceDiv, SOper.again, same, sameBlk, sameCap, Nat.reduceBneDiff, s_draw2, s_pair, k_pair, asunder, SOper.into, Bool.not_false, Bool.not_true, clq17, DS, htk]
  generalize hG : (((H.push (Obj.row [AV.int IntKind.i64 k, AV.str t, vInts ms, vData l, AV.int IntKind.i64 a] 0 false (some 30))).push (Obj.row [AV.int IntKind.i64 0, AV.str [], AV.nils, AV.nils, AV.int IntKind.i64 0] 0 false (some 30))).push (Obj.row [] 0 true none)).push (Obj.row [AV.int IntKind.i64 0, AV.str [], AV.nils, AV.nils, AV.int IntKind.i64 0] 0 false (some 30)) = G
  have lowG : HLow G := hG ▸ low.push.push.push.push
  have nG : G.n = H.n + 4 := by rw [← hG]; simp only [h_n]
  have q0 : G.t.get H.n = some (.row [AV.int IntKind.i64 k, AV.str t, vInts ms, vData l, AV.int IntKind.i64 a] 0 false (some 30)) := by
    rw [← hG, h_get, if_neg (by simp only [h_n]; omega), h_get, if_neg (by simp only [h_n]; omega), h_get, if_neg (by simp only [h_n]; omega), h_get, if_pos rfl]
  have q1 : G.t.get (H.n + 1) = some (.row [AV.int IntKind.i64 0, AV.str [], AV.nils, AV.nils, AV.int IntKind.i64 0] 0 false (some 30)) := by
    rw [← hG, h_get, if_neg (by simp only [h_n]; omega), h_get, if_neg (by simp only [h_n]; omega), h_get, if_pos (by simp only [h_n])]
  have q3 : G.t.get (H.n + 1 + 1 + 1) = some (.row [AV.int IntKind.i64 0, AV.str [], AV.nils, AV.nils, AV.int IntKind.i64 0] 0 false (some 30)) := by
    rw [← hG, h_get, if_pos (by simp only [h_n])]
  have kpG : HKeep (fun _ _ => False) H G := hG ▸ (((HKeep.push low).pushed low).pushed low).pushed low
  obtain ⟨mv, G1, happ, lie, mvf, low1, hn1, hblk, hkeep⟩ := app_told lowG (e := 3) (bs := 8) (by decide) hcl hfl (by omega)
  replace q0 := hkeep _ _ q0
  replace q1 := hkeep _ _ q1
  replace q3 := hkeep _ _ q3
  have kp1 : HKeep (fun _ _ => False) H G1 := kpG.trans ⟨hn1, fun j o hj _ => hkeep j o hj, fun _ => low1⟩
  clear hG
  generalize hb1 : H.n + 1 = b1 at *
  generalize hb3 : b1 + 1 + 1 = b3 at *
  have z0 : ¬ H.n = b1 := by omega
  have z1 : ¬ H.n = b3 := by omega
  have z2 : ¬ b1 = b3 := by omega
  have z3 : ¬ b3 = b1 := by omega
  have n3 := low1.lt q3
  simp -implicitDefEqProofs only [↓v_lenS, SB, POp.val, AOp.val, WOp.val, Lite.bin, intBin, strBin, eqv, eqMany, eq1, AV.asBool, AV.asInt, AV.asNat, AV.asPtr, AV.asStr, resVals, ResV.val, oneOr, wants, skipped, fillAt, putAt, capOf, optNat, bnd, Nat.reduceBEq, reduceIte, Nat.reduceAdd, Nat.reduceLeDiff, Nat.reduceEqDiff, Nat.reduceSub, Nat.reduceMul, Nat.reduceDiv, SOper.again, same, sameBlk, sameCap, Nat.reduceBneDiff, s_draw2, s_pair, k_pair, asunder, SOper.into, Bool.not_false, Bool.not_true, DS, happ, mvf, q0, q1, q3]
  have hnH : H.n ≤ G1.n := by omega
  have hlt0 : ∀ j o, blk mv j o → H.n < j := fun j o h => by have := hblk j o h; omega
  refine loop_rounds l.length (fun i fr H2 => ∃ v, Acc G1.n H2 30 5 i ((l.take i).flatMap D.cells) v ∧ HLow H2 ∧ fr 1 = .ptr (.new H.n) 0 ∧ fr 2 = .ptr (.new b1) 0 ∧ fr 3 = .ptr (.new b3) 0 ∧ fr 4 = .int .i64 i ∧
      H2.t.get H.n = some (.row [.int .i64 k, .str t, vInts ms, vData l, .int .i64 a] 0 false (some 30)) ∧ H2.t.get b1 = some (.row [.int .i64 0, .str [], .nils, .nils, .int .i64 0] 0 false (some 30)) ∧ H2.t.get b3 = some (.row [.int .i64 k, .str t, mv, v, .int .i64 a] 0 false (some 30)) ∧ Lie H2 1 ms.length (ms.flatMap int1) mv ∧ HKeep (fun _ _ => False) H H2 ∧ G1.n ≤ H2.n) ?_ ?_ n 0 _ _ (by omega) (by omega) ?_
  · rintro i fr H2 K' hi ⟨v, acc, low2, h1, h2, h3, h4, g0, g1, g3, lm, kp2, hn2⟩ hKe hKr hK
    obtain ⟨d, hd⟩ : ∃ d, l[i]? = some d := ⟨l[i], List.getElem?_eq_getElem hi⟩
    have e1 := ihn d (List.mem_of_getElem? hd)
    have hlt : (i : Int) < (l.length : Int) := by omega
    have hw := wrap_succ hi (by omega)
    have hpt : l.take (i + 1) = l.take i ++ [d] := by rw [List.take_add_one, hd]; rfl
    have fv := acc.flat
    rw [hpt, flat_snoc] at hK
    obtain ⟨kd, td, md, ld, ad⟩ := d
    rw [D.v_mk] at e1
    rw [D.cells_mk] at hK
    obtain ⟨v', H', happ, acc', kp, low'⟩ := (acc.push low2 (ob := .row [.int .i64 kd, .str td, vInts md, vData ld, .int .i64 ad] 0 true none)).more (e := 30) (bs := 80) (m := 1) (ys := [.int .i64 kd, .str td, vInts md, vData ld, .int .i64 ad]) (by rw [h_n]; omega) low2.push (by decide) rfl five_flat (by omega)
    have m0 := low2.lt g0
    have m1 := low2.lt g1
    have m3 := low2.lt g3
    have q0 := (acc.push low2).row (by decide) kp (j := H.n) (by rw [h_get, if_neg (by omega)]; exact g0)
    have q1 := (acc.push low2).row (by decide) kp (j := b1) (by rw [h_get, if_neg (by omega)]; exact g1)
    have q3 := (acc.push low2).row (by decide) kp (j := b3) (by rw [h_get, if_neg (by omega)]; exact g3)
    have fv' := acc'.flat
    have lm1 : Lie H' 1 ms.length (ms.flatMap int1) mv := lm.keep fun j o hj ho => kp.get j o (by rw [h_get, if_neg (by have := low2 j o ho; omega)]; exact ho) fun hb => by
      have := acc.ge hb
      have := lie.lt low1 hj
      omega
    have n3' := low'.lt q3
    simp -implicitDefEqProofs only [c17_l0, ↓v_lenS, SB, POp.val, AOp.val, WOp.val, Lite.bin, intBin, strBin, eqv, eqMany, eq1, AV.asBool, AV.asInt, AV.asNat, AV.asPtr, AV.asStr, resVals, ResV.val, oneOr, wants, skipped, fillAt, putAt, capOf, optNat, bnd, Nat.reduceBEq, reduceIte, Nat.reduceAdd, Nat.reduceLeDiff, Nat.reduceEqDiff, Nat.reduceSub, Nat.reduceMul, Nat.reduceDiv, SOper.again, same, sameBlk, sameCap, Nat.reduceBneDiff, s_draw2, s_pair, k_pair, asunder, SOper.into, Bool.not_false, Bool.not_true, clq17, DS, h1, h3, h4, g0, g1, g3, hlt, iaddr_vData hd, e1, k_taken, happ, q3, fv', mvf, hw]
    refine hK _ _ ⟨v', acc'.put (by decide) q3, low'.put n3', ?_, ?_, ?_, ?_, ?_, ?_, ?_, ?_, ?_, ?_⟩
    · simp -implicitDefEqProofs only [↓v_lenS, SB, POp.val, AOp.val, WOp.val, Lite.bin, intBin, strBin, eqv, eqMany, eq1, AV.asBool, AV.asInt, AV.asNat, AV.asPtr, AV.asStr, resVals, ResV.val, oneOr, wants, skipped, fillAt, putAt, capOf, optNat, bnd, Nat.reduceBEq, reduceIte, Nat.reduceAdd, Nat.reduceLeDiff, Nat.reduceEqDiff, Nat.reduceSub, Nat.reduceMul, Nat.reduceDiv, SOper.again, same, sameBlk, sameCap, Nat.reduceBneDiff, s_draw2, s_pair, k_pair, asunder, SOper.into, Bool.not_false, Bool.not_true, h1]
    · simp -implicitDefEqProofs only [↓v_lenS, SB, POp.val, AOp.val, WOp.val, Lite.bin, intBin, strBin, eqv, eqMany, eq1, AV.asBool, AV.asInt, AV.asNat, AV.asPtr, AV.asStr, resVals, ResV.val, oneOr, wants, skipped, fillAt, putAt, capOf, optNat, bnd, Nat.reduceBEq, reduceIte, Nat.reduceAdd, Nat.reduceLeDiff, Nat.reduceEqDiff, Nat.reduceSub, Nat.reduceMul, Nat.reduceDiv, SOper.again, same, sameBlk, sameCap, Nat.reduceBneDiff, s_draw2, s_pair, k_pair, asunder, SOper.into, Bool.not_false, Bool.not_true, h2]
    · simp -implicitDefEqProofs only [↓v_lenS, SB, POp.val, AOp.val, WOp.val, Lite.bin, intBin, strBin, eqv, eqMany, eq1, AV.asBool, AV.asInt, AV.asNat, AV.asPtr, AV.asStr, resVals, ResV.val, oneOr, wants, skipped, fillAt, putAt, capOf, optNat, bnd, Nat.reduceBEq, reduceIte, Nat.reduceAdd, Nat.reduceLeDiff, Nat.reduceEqDiff, Nat.reduceSub, Nat.reduceMul, Nat.reduceDiv, SOper.again, same, sameBlk, sameCap, Nat.reduceBneDiff, s_draw2, s_pair, k_pair, asunder, SOper.into, Bool.not_false, Bool.not_true, h3]
    · simp -implicitDefEqProofs only [↓v_lenS, SB, POp.val, AOp.val, WOp.val, Lite.bin, intBin, strBin, eqv, eqMany, eq1, AV.asBool, AV.asInt, AV.asNat, AV.asPtr, AV.asStr, resVals, ResV.val, oneOr, wants, skipped, fillAt, putAt, capOf, optNat, bnd, Nat.reduceBEq, reduceIte, Nat.reduceAdd, Nat.reduceLeDiff, Nat.reduceEqDiff, Nat.reduceSub, Nat.reduceMul, Nat.reduceDiv, SOper.again, same, sameBlk, sameCap, Nat.reduceBneDiff, s_draw2, s_pair, k_pair, asunder, SOper.into, Bool.not_false, Bool.not_true]
    · rw [h_gput, if_neg z1]; exact q0
    · rw [h_gput, if_neg z2]; exact q1
    · rw [h_gput, if_pos rfl]
    · exact lm1.keep fun j o hj ho => by rw [h_gput, if_neg (by have := hblk j o hj; omega)]; exact ho
    · have t1 : HKeep (fun _ _ => False) H H' := ((acc.down hnH).push low2).keeps (kp2.pushed low) low kp
      exact t1.own low (by omega) n3'
    · have := kp.n; rw [h_n] at this; simp only [h_nput]; omega
  · rintro fr H2 K' ⟨v, acc, low2, h1, h2, h3, h4, g0, g1, g3, lm, kp2, hn2⟩ hKe hKr
    rw [List.take_length] at acc
    have fv := acc.flat
    simp -implicitDefEqProofs only [c17_l0, ↓v_lenS, SB, POp.val, AOp.val, WOp.val, Lite.bin, intBin, strBin, eqv, eqMany, eq1, AV.asBool, AV.asInt, AV.asNat, AV.asPtr, AV.asStr, resVals, ResV.val, oneOr, wants, skipped, fillAt, putAt, capOf, optNat, bnd, Nat.reduceBEq, reduceIte, Nat.reduceAdd, Nat.reduceLeDiff, Nat.reduceEqDiff, Nat.reduceSub, Nat.reduceMul, Nat.reduceDiv, SOper.again, same, sameBlk, sameCap, Nat.reduceBneDiff, s_draw2, s_pair, k_pair, asunder, SOper.into, Bool.not_false, Bool.not_true, clq17, DS, h1, h2, h3, h4, g0, g1, g3, Int.lt_irrefl, hKe, k_blockE, fv, mvf, gives_ret]
    refine ⟨k, t, ms, l, a, mv, v, rfl, rfl, ?_, ?_, fun j o hj => by have := hblk j o hj; omega, fun j o hj hb => ?_, kp2.own low (by omega) (low2.lt g1), low2.put (low2.lt g1)⟩
    · exact lm.keep fun j o hj ho => by rw [h_gput, if_neg (by have := hblk j o hj; omega)]; exact ho
    · exact (acc.down hnH).put (by decide) g1
    · have := acc.ge hb
      have := lie.lt low1 hj
      omega
  · refine ⟨.nils, Acc.nil, low1.put n3, ?_, ?_, ?_, ?_, ?_, ?_, ?_, ?_, kp1.own low (by omega) n3, Nat.le_refl _⟩
    · simp -implicitDefEqProofs only [↓v_lenS, SB, POp.val, AOp.val, WOp.val, Lite.bin, intBin, strBin, eqv, eqMany, eq1, AV.asBool, AV.asInt, AV.asNat, AV.asPtr, AV.asStr, resVals, ResV.val, oneOr, wants, skipped, fillAt, putAt, capOf, optNat, bnd, Nat.reduceBEq, reduceIte, Nat.reduceAdd, Nat.reduceLeDiff, Nat.reduceEqDiff, Nat.reduceSub, Nat.reduceMul, Nat.reduceDiv, SOper.again, same, sameBlk, sameCap, Nat.reduceBneDiff, s_draw2, s_pair, k_pair, asunder, SOper.into, Bool.not_false, Bool.not_true]
    · simp -implicitDefEqProofs only [↓v_lenS, SB, POp.val, AOp.val, WOp.val, Lite.bin, intBin, strBin, eqv, eqMany, eq1, AV.asBool, AV.asInt, AV.asNat, AV.asPtr, AV.asStr, resVals, ResV.val, oneOr, wants, skipped, fillAt, putAt, capOf, optNat, bnd, Nat.reduceBEq, reduceIte, Nat.reduceAdd, Nat.reduceLeDiff, Nat.reduceEqDiff, Nat.reduceSub, Nat.reduceMul, Nat.reduceDiv, SOper.again, same, sameBlk, sameCap, Nat.reduceBneDiff, s_draw2, s_pair, k_pair, asunder, SOper.into, Bool.not_false, Bool.not_true]
    · simp -implicitDefEqProofs only [↓v_lenS, SB, POp.val, AOp.val, WOp.val, Lite.bin, intBin, strBin, eqv, eqMany, eq1, AV.asBool, AV.asInt, AV.asNat, AV.asPtr, AV.asStr, resVals, ResV.val, oneOr, wants, skipped, fillAt, putAt, capOf, optNat, bnd, Nat.reduceBEq, reduceIte, Nat.reduceAdd, Nat.reduceLeDiff, Nat.reduceEqDiff, Nat.reduceSub, Nat.reduceMul, Nat.reduceDiv, SOper.again, same, sameBlk, sameCap, Nat.reduceBneDiff, s_draw2, s_pair, k_pair, asunder, SOper.into, Bool.not_false, Bool.not_true]
    · simp -implicitDefEqProofs only [↓v_lenS, SB, POp.val, AOp.val, WOp.val, Lite.bin, intBin, strBin, eqv, eqMany, eq1, AV.asBool, AV.asInt, AV.asNat, AV.asPtr, AV.asStr, resVals, ResV.val, oneOr, wants, skipped, fillAt, putAt, capOf, optNat, bnd, Nat.reduceBEq, reduceIte, Nat.reduceAdd, Nat.reduceLeDiff, Nat.reduceEqDiff, Nat.reduceSub, Nat.reduceMul, Nat.reduceDiv, SOper.again, same, sameBlk, sameCap, Nat.reduceBneDiff, s_draw2, s_pair, k_pair, asunder, SOper.into, Bool.not_false, Bool.not_true]; rfl
    · rw [h_gput, if_neg z1]; exact q0
    · rw [h_gput, if_neg z2]; exact q1
    · rw [h_gput, if_pos rfl]
    · exact lie.keep fun j o hj ho => by rw [h_gput, if_neg (by have := hblk j o hj; omega)]; exact ho

theorem copyQ : ∀ d : D, d.small → Ret Q2 17 [d.v] d.v := D.indA fun k t ms l a ih hsm => by
  rw [D.small, D.smalls_iff] at hsm
  obtain ⟨f1, f2, f3⟩ := hsm
  refine Ret.of rfl (code17 own2 mode2) rfl rfl (fun H => by simp -implicitDefEqProofs only [mapHM_nil, mapHM_cons, D.shut, Option.bind_some, Option.map_some]) ?_
  refine (body17 k t ms l a f1 f2 fun d hd => ih d hd (f3 d hd)).mono fun n hn H => ?_
  obtain ⟨v, H', h1, k', t', ms', l', a', mv, lv, hd, rfl, lm, acc, _, _, _, _⟩ := hn H.bare HLow.bare
  simp only [D.mk.injEq] at hd
  obtain ⟨rfl, rfl, rfl, rfl, rfl⟩ := hd
  obtain ⟨H2, h2, _⟩ := agg_shut (k := k) (t := t) (a := a) lm (Lie.of acc)
  exact ⟨_, _, h1, H2, h2⟩

theorem copy17 (d : D) (hsm : d.small) : Ev fun n => ∀ H, HLow H → Gives (call4 P2 n 17 [d.v] H) fun v H' => Copied H d v H' := by
  obtain ⟨k, t, ms, l, a⟩ := d
  rw [D.small, D.smalls_iff] at hsm
  obtain ⟨f1, f2, f3⟩ := hsm
  refine Ev.succ ((body17 k t ms l a f1 f2 fun d hd => copyQ d (f3 d hd)).mono fun n hn H low => ?_)
  rw [call4_code (P := P2) (sf := c17) (code17 _ _) rfl]
  exact hn H low

theorem plain_same (ns : List Int) : ∀ (d : D) (a b : Nat), ((d.marked ns a).1.plain).same (d.marked [] b).1 = true := D.indA fun k t ms l p ih a b => by
  have h0 : ∀ m b, marksN [] m b = ([], b) := fun m b => by cases m <;> simp [marksN]
  have key : ∀ l : List D, (∀ d ∈ l, ∀ a b, ((d.marked ns a).1.plain).same (d.marked [] b).1 = true) → ∀ a b, D.sames (D.plains (D.markeds ns l a).1) (D.markeds [] l b).1 = true := by
    intro l
    induction l with
    | nil => intro _ a b; simp [D.markeds, D.plains, D.sames]
    | cons d l ih =>
      intro h a b
      simp only [D.markeds, D.plains, D.sames, h d (by simp) a b, ih (fun e he => h e (by simp [he])), Bool.and_self]
  simp only [D.marked, D.plain, D.same, h0, ite_self, beq_self_eq_true, zipAll, Bool.true_and]
  exact key l ih _ _

theorem zipAll_comm {α : Type} {p : α → α → Bool} : ∀ (l l' : List α), (∀ x ∈ l, ∀ y, p x y = p y x) → zipAll p l l' = zipAll p l' l
  | [], [], _ => rfl
  | [], y :: ys, _ => rfl
  | x :: xs, [], _ => rfl
  | x :: xs, y :: ys, h => by rw [zipAll, zipAll, h x (by simp), zipAll_comm xs ys fun z hz => h z (by simp [hz])]

theorem same_comm : ∀ a b : D, a.same b = b.same a := D.indA fun k t ms l a ih b => by
  obtain ⟨k', t', ms', l', a'⟩ := b
  rw [D.same, D.same, D.sames_eq, D.sames_eq, zipAll_comm l l' ih, zipAll_comm ms ms' fun x _ y => Bool.beq_comm]
  rw [Bool.beq_comm (a := k), Bool.beq_comm (a := t)]

end Go.Lite
