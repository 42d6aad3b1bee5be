/-
  Several texts in one: TPrint, TPrintB, TPure, TFuel, TUp, TLawP, TRun.
-/
import Derived.Test.YtmfdlglhngmacaaGreatDoorUM
import Derived.Test.YtmfdlglhngmacaaGreatDoorUG
import Derived.Test.YtmfdlglhngmacaaGreatDoorUL

set_option linter.unusedSimpArgs false
set_option linter.unusedVariables false
set_option linter.defProp false
set_option maxRecDepth 100000

/-
  What is printed.
-/
namespace Go.Lite
open Go Go.Proofs
def BldW (H : Heap) (kw kc : Nat) (s : Str) : Prop :=
  ∃ a bv, (a = .nilp ∨ a = .ptr (.new kw) 1) ∧ H.t.get kw = some (.row [.ptr (.new kc) 0, a, bv] 0 false (some 69)) ∧ Acc 0 H 5 1 s.length (bytes s) bv
def noisy (kw : Nat) : Nat → Obj → Prop := fun j o => j = kw ∨ ∃ cs es fz, o = .row cs es fz (some 5)
theorem Acc.noisy {N kw : Nat} {H H' : Heap} {n : Nat} {cells : List AV} {v : AV} (h : Acc N H 5 1 n cells v) (kp : HKeep (blk v) H H') : HKeep (noisy kw) H H' :=
  kp.mono fun j o hj ⟨q, m, c, ev⟩ => by
    subst ev
    rcases h with ⟨_, _, h⟩ | ⟨_, _, k, h, _, h4⟩
    · cases h
    · simp only [AV.slice.injEq, Blk.new.injEq] at h
      rw [h.1] at hj
      rw [h4] at hj
      simp only [Option.some.injEq] at hj
      subst hj
      exact .inr ⟨_, _, _, rfl⟩
theorem write62 {n : Nat} {H : Heap} {kw kc : Nat} {s t : Str} (hb : BldW H kw kc s) (low : HLow H) (hlen : s.length + t.length ≤ 1099511627776) :
    ∃ v H', callN P5 (n + 2) 78 [.ptr (.new kw) 1, .str t] H = some (.ret v, H') ∧ BldW H' kw kc (s ++ t) ∧ HKeep (noisy kw) H H' ∧ HLow H' := by
  rw [callN_code (P := P5) (sf := c78) rfl (code78 _ _) rfl rfl]
  obtain ⟨a, bv, ha, hg, hc⟩ := hb
  have hk : kw < H.n := low kw _ hg
  have fb := hc.flat
  have fin : ∀ H1 : Heap, H1.t.get kw = some (.row [.ptr (.new kc) 0, .ptr (.new kw) 1, bv] 0 false (some 69)) → HLow H1 → HKeep (noisy kw) H H1 → Acc 0 H1 5 1 s.length (bytes s) bv →
      ∃ v' H2, appendOf 5 1 1 H1 bv (t.length, bytes t) = some (v', H2) ∧ H2.t.get kw = some (.row [.ptr (.new kc) 0, .ptr (.new kw) 1, bv] 0 false (some 69)) ∧ v'.flat = true ∧ BldW (H2.put kw (.row [.ptr (.new kc) 0, .ptr (.new kw) 1, v'] 0 false (some 69))) kw kc (s ++ t) ∧ HKeep (noisy kw) H (H2.put kw (.row [.ptr (.new kc) 0, .ptr (.new kw) 1, v'] 0 false (some 69))) ∧ HLow (H2.put kw (.row [.ptr (.new kc) 0, .ptr (.new kw) 1, v'] 0 false (some 69))) := by
    intro H1 hg1 low1 kp1 hc1
    obtain ⟨v', H2, happ, hc2, kp2, low2⟩ := hc1.more (m := t.length) (bs := 1) (ys := bytes t) (Nat.zero_le _) low1 (by decide) (by simp [bytes_len]) (bytes_flat t) (by omega)
    have hg2 := hc1.row (by decide) kp2 hg1
    refine ⟨v', H2, happ, hg2, hc2.flat, ⟨_, v', .inr rfl, by rw [h_gput, if_pos rfl], ?_⟩, ?_, low2.put (low2 kw _ hg2)⟩
    · rw [bytes_append, List.length_append]
      exact hc2.put (by decide) hg2
    · have kp3 : HKeep (noisy kw) H H2 := kp1.trans (hc1.noisy kp2)
      exact kp3.trans (HKeep.put (X := noisy kw) (fun _ => .inl rfl) (low2 kw _ hg2))
  rcases ha with rfl | rfl
  · obtain ⟨v', H2, e1, e2, e3, e4, e5, e6⟩ := fin (H.put kw (.row [.ptr (.new kc) 0, .ptr (.new kw) 1, bv] 0 false (some 69))) (by rw [h_gput, if_pos rfl]) (low.put hk) (HKeep.put (X := noisy kw) (fun _ => .inl rfl) hk) (hc.put (by decide) hg)
    simp -implicitDefEqProofs only [c78, ↓v_lenS, ZZ, Nat.reduceBEq, reduceIte, Nat.reduceAdd, Nat.reduceLeDiff, Nat.reduceEqDiff, Nat.reduceBneDiff, CL, callN_own (P := P5) (f := 95) (g := ownCheck lies4) rfl, ownCheck, hg, lies4, Nat.reduceBEq, beq_lit, taken_str, e1, e2, e3]
    exact ⟨_, _, rfl, e4, e5, e6⟩
  · obtain ⟨v', H2, e1, e2, e3, e4, e5, e6⟩ := fin H hg low HKeep.refl hc
    simp -implicitDefEqProofs only [c78, ↓v_lenS, ZZ, Nat.reduceBEq, reduceIte, Nat.reduceAdd, Nat.reduceLeDiff, Nat.reduceEqDiff, Nat.reduceBneDiff, CL, callN_own (P := P5) (f := 95) (g := ownCheck lies4) rfl, ownCheck, hg, lies4, Nat.reduceBEq, beq_lit, taken_str, e1, e2, e3]
    exact ⟨_, _, rfl, e4, e5, e6⟩
theorem len60 {n : Nat} {H : Heap} {kw kc : Nat} {s : Str} (hb : BldW H kw kc s) : callN P5 (n + 1) 76 [.ptr (.new kw) 1] H = some (.ret (.int .i64 (s.length : Nat)), H) := by
  rw [callN_code (P := P5) (sf := c76) rfl (code76 _ _) rfl rfl]
  obtain ⟨a, bv, ha, hg, hc⟩ := hb
  have hl := hc.len
  simp -implicitDefEqProofs only [c76, ↓v_lenS, ZZ, Nat.reduceBEq, reduceIte, Nat.reduceAdd, Nat.reduceLeDiff, Nat.reduceEqDiff, Nat.reduceBneDiff, hg, hl]
theorem string29 {n : Nat} {H : Heap} {kw kc : Nat} {s : Str} (hb : BldW H kw kc s) (h256 : ∀ c ∈ s, c < 256) (hlen : s.length ≤ 1099511627776) :
    ∃ H', callN P5 (n + 1) 28 [.ptr (.new kw) 1] H = some (.ret (.str s), H') ∧ HKeep (fun _ o => ∃ cs es fz, o = Obj.row cs es fz (some 5)) H H' := by
  rw [callN_own (P := P5) (g := ownString) rfl]
  obtain ⟨a, bv, ha, hg, hc⟩ := hb
  rcases hc with ⟨h0, h1, rfl⟩ | ⟨h0, h1, j, rfl, _, hgj⟩
  · obtain rfl := List.eq_nil_of_length_eq_zero h0
    simp -implicitDefEqProofs only [ownString, ↓v_lenS, ZZ, Nat.reduceBEq, reduceIte, Nat.reduceAdd, Nat.reduceLeDiff, Nat.reduceEqDiff, Nat.reduceBneDiff, hg]
    exact ⟨_, rfl, HKeep.refl⟩
  · cases s with
    | nil => exact absurd rfl h0
    | cons c s =>
      have e1 : (bytes (c :: s)).take (s.length + 1) = bytes (c :: s) := List.take_of_length_le (by simp [bytes])
      have e2 := bytesOf_bytes (c :: s) h256
      simp -implicitDefEqProofs only [ownString, ↓v_lenS, ZZ, Nat.reduceBEq, reduceIte, Nat.reduceAdd, Nat.reduceLeDiff, Nat.reduceEqDiff, Nat.reduceBneDiff, hg, hgj, e1, e2]
      rw [if_pos (by simp [bytes] at hlen ⊢; omega)]
      refine ⟨_, rfl, Nat.le_refl _, fun i o hi hx => ?_, fun h i o hi => ?_⟩
      · rw [h_gput, if_neg]
        · exact hi
        · rintro rfl
          rw [hgj] at hi
          simp only [Option.some.injEq] at hi
          subst hi
          exact hx ⟨_, _, _, rfl⟩
      · rw [h_gput] at hi
        split at hi
        · rename_i e; subst e; exact h _ _ hgj
        · exact h _ _ hi
structure PSt (F kw kc : Nat) (H : Heap) (bs : List Nat) (s : S) (out : Str) : Prop where
  st : St F kw kc H bs s 0
  bld : BldW H kw kc out
  len : out.length ≤ 2000
  byte : ∀ c ∈ out, c < 256
def loudP : Nat → Obj → Prop := fun _ o => ∃ cs es fz ty, o = .row cs es fz ty ∧ (ty = some 110 ∨ ty = some 64 ∨ ty = some 69 ∨ ty = some 5)
theorem quietP {j : Nat} {cs : List AV} {es : Nat} {fz : Bool} {t : Nat} (h1 : t ≠ 110) (h2 : t ≠ 64) (h3 : t ≠ 69) (h4 : t ≠ 5) : ¬ loudP j (.row cs es fz (some t)) := by
  rintro ⟨a, b, c, d, e, h⟩
  simp only [Obj.row.injEq] at e
  obtain ⟨_, _, _, rfl⟩ := e
  simp only [Option.some.injEq] at h
  omega
abbrev KeepP (H H' : Heap) : Prop := HKeep loudP H H'
theorem HKeep.toP {H H' : Heap} (k : Keep H H') : KeepP H H' := k.mono fun j o hj ⟨cs, es, fz, ty, e, h⟩ => ⟨cs, es, fz, ty, e, by rcases h with h | h <;> simp [h]⟩
theorem HKeep.stayP {H H' : Heap} (k : KeepP H H') : Stay H H' := fun j cs es fz t g ht => k.get _ _ g (quietP (by omega) (by omega) (by omega) (by omega))
theorem PSt.force {F kw kc : Nat} {H H' : Heap} {bs bs' : List Nat} {s s' : S} {out : Str} (p : PSt F kw kc H bs s out) (k : Keep H H') (st : St F kw kc H' bs' s' 0) : PSt F kw kc H' bs' s' out := by
  obtain ⟨a, bv, h1, h2, h3⟩ := p.bld
  exact ⟨st, ⟨a, bv, h1, k.get _ _ h2 (quiet (by decide) (by decide)), h3.kept k fun j _ hj => quiet (by decide) (by decide)⟩, p.len, p.byte⟩
theorem St.work {F kw kc : Nat} {H H' : Heap} {bs : List Nat} {s : S} {d : Nat} (st : St F kw kc H bs s d) (k : HKeep (noisy kw) H H') (low : HLow H') {out : Str} (b : BldW H' kw kc out) : St F kw kc H' bs s d ∧ KeepP H H' := by
  obtain ⟨wa, wb, gw⟩ := st.w
  have gt : ∀ j cs es fz t, H.t.get j = some (.row cs es fz (some t)) → t ≠ 69 → t ≠ 5 → H'.t.get j = some (.row cs es fz (some t)) := fun j cs es fz t g h1 h2 => by
    refine k.get _ _ g ?_
    rintro (rfl | ⟨_, _, _, e⟩)
    · rw [gw] at g
      simp only [Option.some.injEq, Obj.row.injEq] at g
      omega
    · simp only [Obj.row.injEq, Option.some.injEq] at e
      omega
  obtain ⟨a, bv, _, gb, _⟩ := b
  refine ⟨⟨low, ⟨_, _, gb⟩, gt _ _ _ _ _ st.c (by decide) (by decide), st.nodup, st.len, fun i b c hb hs => ?_, st.steps, st.uses, st.small⟩, k.mono fun j o hj hx => ?_⟩
  · obtain ⟨cs, h1, h2⟩ := st.cells i b c hb hs
    refine ⟨cs, gt _ _ _ _ _ h1 (by decide) (by decide), ?_⟩
    have := h2.keep (x := []) (H' := H') fun j cs es fz t g ht => gt _ _ _ _ _ g (by omega) (by omega)
    rwa [List.append_nil] at this
  · rcases hx with rfl | ⟨cs, es, fz, rfl⟩
    · rw [gw] at hj
      simp only [Option.some.injEq] at hj
      subst hj
      exact ⟨_, _, _, _, rfl, by simp⟩
    · exact ⟨_, _, _, _, rfl, by simp⟩
def EndW (H : Heap) (kw kc : Nat) : Prop := ∃ wa wb, H.t.get kw = some (.row [.ptr (.new kc) 0, wa, wb] 0 false (some 69))
theorem PSt.endw {F kw kc : Nat} {H H' : Heap} {bs : List Nat} {s : S} {out : Str} (p : PSt F kw kc H bs s out) (k : Keep H H') : EndW H' kw kc := by
  obtain ⟨wa, wb, hw⟩ := p.st.w
  exact ⟨wa, wb, k.get _ _ hw (quiet (by decide) (by decide))⟩
def GiveP (F kw kc : Nat) (H : Heap) (bs : List Nat) (r : R) : O Str → Prop
  | .val out s => ∃ v H' x, r = some (.ret v, H') ∧ PSt F kw kc H' (bs ++ x) s out ∧ KeepP H H'
  | .stop k t s => ∃ H', r = some (.panic (stopV k t), H') ∧ (EndS F kc H' s ∧ EndW H' kw kc) ∧ KeepP H H'
theorem GiveP.more {F kw kc : Nat} {H : Heap} {bs x : List Nat} {r : R} {o : O Str} (h : GiveP F kw kc H (bs ++ x) r o) : GiveP F kw kc H bs r o := by
  cases o with
  | val v s =>
    obtain ⟨u, H', y, h1, h3, h4⟩ := h
    rw [List.append_assoc] at h3
    exact ⟨u, H', x ++ y, h1, h3, h4⟩
  | stop a t s => exact h
theorem GiveP.from {F kw kc : Nat} {H H1 : Heap} {bs : List Nat} {r : R} {o : O Str} (h : GiveP F kw kc H1 bs r o) (k : KeepP H H1) : GiveP F kw kc H bs r o := by
  cases o with
  | val v s =>
    obtain ⟨u, H', x, h1, h3, h4⟩ := h
    exact ⟨u, H', x, h1, h3, k.trans h4⟩
  | stop a t s =>
    obtain ⟨H', h1, h2, h3⟩ := h
    exact ⟨H', h1, h2, k.trans h3⟩
theorem say38 : Ev fun n => ∀ F kw kc H bs s out t, PSt F kw kc H bs s out → t.length ≤ 1000 → (∀ c ∈ t, c < 256) → GiveP F kw kc H bs (callN P5 n 45 [.ptr (.new kw) 0, .str t] H) (sayA out t s) := by
  refine Ev.succ ((stop61.and (Ev.ge 3)).mono fun n hn F kw kc H bs s out t p htl htb => ?_)
  obtain ⟨e61, hn⟩ := hn
  obtain ⟨m, rfl⟩ : ∃ m, n = m + 2 := ⟨n - 2, by omega⟩
  rw [callN_code (P := P5) (sf := c45) rfl (code45 _ _) rfl rfl]
  have e60 := len60 (n := m + 1) p.bld
  have hlo := p.len
  have hw : IntKind.i64.wrap ((out.length : Int) + (t.length : Int)) = ((out.length + t.length : Nat) : Int) := by
    rw [wrap64 (by omega) (by omega)]; omega
  unfold sayA
  by_cases hc : out.length + t.length > 2000
  · have hg : ((out.length + t.length : Nat) : Int) > 2000 := by omega
    rw [if_pos hc]
    obtain ⟨a, bv, ha, hgw, _⟩ := p.bld
    simp -implicitDefEqProofs only [c45, ↓v_lenS, ZZ, Nat.reduceBEq, reduceIte, Nat.reduceAdd, Nat.reduceLeDiff, Nat.reduceEqDiff, Nat.reduceBneDiff, CL, hgw, e60, hw, hg, e61]
    exact ⟨H, rfl, ⟨p.st.ends, p.endw HKeep.refl⟩, HKeep.refl⟩
  · have hg : ¬ ((out.length + t.length : Nat) : Int) > 2000 := by omega
    rw [if_neg hc]
    obtain ⟨v, H', e62, b', kn, low'⟩ := write62 (n := m) p.bld p.st.low (t := t) (by omega)
    obtain ⟨st', kp⟩ := p.st.work kn low' b'
    obtain ⟨a, bv, ha, hgw, _⟩ := p.bld
    simp -implicitDefEqProofs only [c45, ↓v_lenS, ZZ, Nat.reduceBEq, reduceIte, Nat.reduceAdd, Nat.reduceLeDiff, Nat.reduceEqDiff, Nat.reduceBneDiff, CL, hgw, e60, hw, hg, e62]
    refine ⟨_, H', [], rfl, ?_, kp⟩
    rw [List.append_nil]
    refine ⟨st', b', by rw [List.length_append]; omega, fun c hc => ?_⟩
    rcases List.mem_append.1 hc with hc | hc
    · exact p.byte c hc
    · exact htb c hc
end Go.Lite

/-
  A value is printed.
-/
namespace Go.Lite
open Go Go.Proofs
noncomputable def tailF (F d : Nat) (w : V) (out : Str) (s : S) : Option (O Str) :=
  if w.kind = 3 then some (sayA out [41] s) else (sayA out [32, 46, 32] s).bind fun out s => (printA F d out w s).bind fun r => r.bind fun out s => some (sayA out [41] s)
theorem rowA_pair {F n : Nat} {out out2 : Str} {a b c d : Nat} {v : V} {s s1 s2 s3 : S} (h1 : forceA F n a s = some (.val v s1)) (h2 : printA F n out v s1 = some (.val out2 s2)) (h3 : forceA F n b s2 = some (.val (.pair c d) s3)) :
    rowA F (n + 1) out a b s = (sayA out2 [32] s3).bind fun out s => rowA F n out c d s := by
  rw [rowA, h1]; simp only [Option.bind_some, O.bind]; rw [h2]; simp only [Option.bind_some, O.bind]; rw [h3]; rfl
theorem rowA_tail {F n : Nat} {out out2 : Str} {a b : Nat} {v w : V} {s s1 s2 s3 : S} (h1 : forceA F n a s = some (.val v s1)) (h2 : printA F n out v s1 = some (.val out2 s2)) (h3 : forceA F n b s2 = some (.val w s3)) (hw : ∀ c d, w ≠ .pair c d) :
    rowA F (n + 1) out a b s = tailF F n w out2 s3 := by
  rw [rowA, h1]; simp only [Option.bind_some, O.bind]; rw [h2]; simp only [Option.bind_some, O.bind]; rw [h3]
  cases w with
  | pair c d => exact absurd rfl (hw c d)
  | atom k t => rfl
  | fn e env g => rfl
theorem rowA_stop1 {F n : Nat} {out : Str} {a b : Nat} {s s1 : S} {k : Int} {t : Str} (h1 : forceA F n a s = some (.stop k t s1)) : rowA F (n + 1) out a b s = some (.stop k t s1) := by
  rw [rowA, h1]; rfl
theorem rowA_stop2 {F n : Nat} {out : Str} {a b : Nat} {v : V} {s s1 s2 : S} {k : Int} {t : Str} (h1 : forceA F n a s = some (.val v s1)) (h2 : printA F n out v s1 = some (.stop k t s2)) : rowA F (n + 1) out a b s = some (.stop k t s2) := by
  rw [rowA, h1]; simp only [Option.bind_some, O.bind]; rw [h2]; rfl
theorem rowA_stop3 {F n : Nat} {out out2 : Str} {a b : Nat} {v : V} {s s1 s2 s3 : S} {k : Int} {t : Str} (h1 : forceA F n a s = some (.val v s1)) (h2 : printA F n out v s1 = some (.val out2 s2)) (h3 : forceA F n b s2 = some (.stop k t s3)) : rowA F (n + 1) out a b s = some (.stop k t s3) := by
  rw [rowA, h1]; simp only [Option.bind_some, O.bind]; rw [h2]; simp only [Option.bind_some, O.bind]; rw [h3]; rfl
theorem rowA_none1 {F n : Nat} {out : Str} {a b : Nat} {s : S} (h1 : forceA F n a s = none) : rowA F (n + 1) out a b s = none := by rw [rowA, h1]; rfl
theorem rowA_none2 {F n : Nat} {out : Str} {a b : Nat} {v : V} {s s1 : S} (h1 : forceA F n a s = some (.val v s1)) (h2 : printA F n out v s1 = none) : rowA F (n + 1) out a b s = none := by
  rw [rowA, h1]; simp only [Option.bind_some, O.bind]; rw [h2]; rfl
theorem rowA_none3 {F n : Nat} {out out2 : Str} {a b : Nat} {v : V} {s s1 s2 : S} (h1 : forceA F n a s = some (.val v s1)) (h2 : printA F n out v s1 = some (.val out2 s2)) (h3 : forceA F n b s2 = none) : rowA F (n + 1) out a b s = none := by
  rw [rowA, h1]; simp only [Option.bind_some, O.bind]; rw [h2]; simp only [Option.bind_some, O.bind]; rw [h3]; rfl
def PrintC (F : Nat) (v : V) (s : S) (out : Str) (o : O Str) (n : Nat) : Prop := ∀ kw kc H bs cs, PSt F kw kc H bs s out → ValR H bs v cs → GiveP F kw kc H bs (callN P5 n 26 [.ptr (.new kw) 0, .agg cs] H) o
def PrintOk (F m : Nat) : Prop := ∀ out v s o, printA F m out v s = some o → Ev (PrintC F v s out o)
def RowLoop (F : Nat) (a b : Nat) (s : S) (out : Str) (o : O Str) (m n : Nat) : Prop := ∀ kw kc H0 H bs cs k3 fr mm KK, PSt F kw kc H bs s out → ValR H bs (.pair a b) cs → KeepP H0 H → HLow H0 → H0.n ≤ k3 →
  fr 0 = .ptr (.new kw) 0 → fr 3 = .ptr (.new k3) 0 → H.t.get k3 = some (.row cs 0 false (some 75)) → m ≤ mm →
  (∀ fr' H' bs' w cs' s' out' o' d, PSt F kw kc H' bs' s' out' → ValR H' bs' w cs' → KeepP H0 H' → fr' 0 = .ptr (.new kw) 0 → fr' 3 = .ptr (.new k3) 0 → H'.t.get k3 = some (.row cs' 0 false (some 75)) → tailF F d w out' s' = some o' →
    (∀ s4 q, sayA out' [32, 46, 32] s' = .val (out' ++ [32, 46, 32]) s4 → printA F d (out' ++ [32, 46, 32]) w s4 = some q → PrintC F w s4 (out' ++ [32, 46, 32]) q n) → GiveP F kw kc H0 bs' (KK (.exit 1) fr' H') o') →
  GiveP F kw kc H0 bs (loopR (callN P5 n) n c26_l0 mm fr H KK) o
theorem Ev.imp {p : Nat → Prop} {q : Prop} (h : q → Ev p) : Ev fun n => q → p n := by
  by_cases hq : q
  · exact (h hq).mono fun n hn _ => hn
  · exact Ev.of fun n h => absurd h hq
theorem say_val {out t out' : Str} {s s' : S} (h : sayA out t s = .val out' s') : out' = out ++ t ∧ s' = s := by
  unfold sayA at h
  split at h
  · cases h
  · simp only [O.val.injEq] at h; exact ⟨h.1.symm, h.2.symm⟩
set_option maxHeartbeats 8000000 in
theorem row_loop {F m : Nat} (ihF : ForceOk F m) (ihP : PrintOk F m) (ihR : ∀ out a b s o, rowA F m out a b s = some o → Ev (RowLoop F a b s out o m)) : ∀ out a b s o, rowA F (m + 1) out a b s = some o → Ev (RowLoop F a b s out o (m + 1)) := by
  intro out a b s o h
  cases h1 : forceA F m a s with
  | none => rw [rowA_none1 h1] at h; cases h
  | some p =>
  have hA := ihF a s p h1
  cases p with
  | stop k t s1 =>
    rw [rowA_stop1 h1] at h
    obtain rfl := Option.some.inj h
    refine hA.mono fun n eA kw kc H0 H bs cs k3 fr mm KK p hv kp low0 hk3 r0 r3 g3 hm hK => ?_
    obtain ⟨mm, rfl⟩ : ∃ k, mm = k + 1 := ⟨mm - 1, by omega⟩
    obtain ⟨c2, c3, rfl, p2, p3⟩ := hv
    obtain ⟨H', q1, q2, q3⟩ := eA kw kc H bs c2 p.st p2
    rw [loop_succ]
    simp -implicitDefEqProofs only [c26_l0, ↓v_lenS, ZZ, Nat.reduceBEq, reduceIte, Nat.reduceAdd, Nat.reduceLeDiff, Nat.reduceEqDiff, Nat.reduceBneDiff, CL, r0, r3, g3, q1]
    exact ⟨H', rfl, ⟨q2, p.endw q3⟩, kp.trans q3.toP⟩
  | val v s1 =>
  cases h2 : printA F m out v s1 with
  | none => rw [rowA_none2 h1 h2] at h; cases h
  | some q =>
  have hP := ihP out v s1 q h2
  cases q with
  | stop k t s2 =>
    rw [rowA_stop2 h1 h2] at h
    obtain rfl := Option.some.inj h
    refine (hA.and hP).mono fun n hn kw kc H0 H bs cs k3 fr mm KK p hv kp low0 hk3 r0 r3 g3 hm hK => ?_
    obtain ⟨eA, eP⟩ := hn
    obtain ⟨mm, rfl⟩ : ∃ k, mm = k + 1 := ⟨mm - 1, by omega⟩
    obtain ⟨c2, c3, rfl, p2, p3⟩ := hv
    obtain ⟨cs, H', x, q1, q2, q3, q4⟩ := eA kw kc H bs c2 p.st p2
    obtain ⟨H2, y1, y2, y3⟩ := eP kw kc H' (bs ++ x) cs (p.force q4 q3) q2
    rw [loop_succ]
    simp -implicitDefEqProofs only [c26_l0, ↓v_lenS, ZZ, Nat.reduceBEq, reduceIte, Nat.reduceAdd, Nat.reduceLeDiff, Nat.reduceEqDiff, Nat.reduceBneDiff, CL, r0, r3, g3, q1, y1]
    exact ⟨H2, rfl, y2, (kp.trans q4.toP).trans y3⟩
  | val out2 s2 =>
  cases h3 : forceA F m b s2 with
  | none => rw [rowA_none3 h1 h2 h3] at h; cases h
  | some p2 =>
  have hB := ihF b s2 p2 h3
  cases p2 with
  | stop k t s3 =>
    rw [rowA_stop3 h1 h2 h3] at h
    obtain rfl := Option.some.inj h
    refine (hA.and (hP.and hB)).mono fun n hn kw kc H0 H bs cs k3 fr mm KK p hv kp low0 hk3 r0 r3 g3 hm hK => ?_
    obtain ⟨eA, eP, eB⟩ := hn
    obtain ⟨mm, rfl⟩ : ∃ k, mm = k + 1 := ⟨mm - 1, by omega⟩
    obtain ⟨c2, c3, rfl, p2, p3⟩ := hv
    obtain ⟨cs, H', x, q1, q2, q3, q4⟩ := eA kw kc H bs c2 p.st p2
    obtain ⟨u, H2, y, y1, y2, y3⟩ := eP kw kc H' (bs ++ x) cs (p.force q4 q3) q2
    obtain ⟨H3, z1, z2, z3⟩ := eB kw kc H2 _ c3 y2.st (p3.more.more)
    have g3' := y3.get _ _ (q4.get _ _ g3 (quiet (by decide) (by decide))) (quietP (by decide) (by decide) (by decide) (by decide))
    rw [loop_succ]
    simp -implicitDefEqProofs only [c26_l0, ↓v_lenS, ZZ, Nat.reduceBEq, reduceIte, Nat.reduceAdd, Nat.reduceLeDiff, Nat.reduceEqDiff, Nat.reduceBneDiff, CL, r0, r3, g3, q1, y1, g3', z1]
    exact ⟨H3, rfl, ⟨z2, y2.endw z3⟩, ((kp.trans q4.toP).trans y3).trans z3.toP⟩
  | val w s3 =>
  rcases Classical.em (∃ c d, w = .pair c d) with ⟨c, d, rfl⟩ | hw
  · rw [rowA_pair h1 h2 h3] at h
    have hR : Ev fun n => ∀ s4 q, sayA out2 [32] s3 = .val (out2 ++ [32]) s4 → rowA F m (out2 ++ [32]) c d s4 = some q → RowLoop F c d s4 (out2 ++ [32]) q m n := by
      cases hs : sayA out2 [32] s3 with
      | stop k t s4 => exact Ev.of fun n s4 q e => by cases e
      | val o3 s4 =>
        obtain ⟨rfl, rfl⟩ := say_val hs
        have : Ev fun n => ∀ q, rowA F m (out2 ++ [32]) c d s4 = some q → RowLoop F c d s4 (out2 ++ [32]) q m n := Ev.opt fun q hq => ihR _ _ _ _ q hq
        refine this.mono fun n hn s4 q e hq => ?_
        simp only [O.val.injEq, true_and] at e
        subst e
        exact hn q hq
    refine (hA.and (hP.and (hB.and (say38.and hR)))).mono fun n hn kw kc H0 H bs cs k3 fr mm KK p hv kp low0 hk3 r0 r3 g3 hm hK => ?_
    obtain ⟨eA, eP, eB, e38, eR⟩ := hn
    obtain ⟨mm, rfl⟩ : ∃ k, mm = k + 1 := ⟨mm - 1, by omega⟩
    obtain ⟨c2, c3, rfl, p2, p3⟩ := hv
    obtain ⟨cs, H', x, q1, q2, q3, q4⟩ := eA kw kc H bs c2 p.st p2
    obtain ⟨u, H2, y, y1, y2, y3⟩ := eP kw kc H' (bs ++ x) cs (p.force q4 q3) q2
    obtain ⟨cw, H3, x3, z1, z2, z3, z4⟩ := eB kw kc H2 _ c3 y2.st (p3.more.more)
    have g3' := y3.get _ _ (q4.get _ _ g3 (quiet (by decide) (by decide))) (quietP (by decide) (by decide) (by decide) (by decide))
    have g3'' := z4.get _ _ g3' (quiet (by decide) (by decide))
    obtain ⟨d2, d3, rfl, pd2, pd3⟩ := z2
    have hd2 : d2.flat = true := by obtain ⟨_, _, rfl⟩ := pd2; rfl
    have hd3 : d3.flat = true := by obtain ⟨_, _, rfl⟩ := pd3; rfl
    have st4 := z3.box g3'' (by decide) (ob := .row [.int .i64 5, .str [], d2, d3, .int .i64 0, .str [], .nils, .nils, .nilp, .nils] 0 false (some 75))
    have kpA := ((kp.trans q4.toP).trans y3).trans z4.toP
    have kp4 := kpA.own low0 hk3 (z3.low.lt g3'') (ob := .row [.int .i64 5, .str [], d2, d3, .int .i64 0, .str [], .nils, .nils, .nilp, .nils] 0 false (some 75))
    have ps4 : PSt F kw kc (H3.put k3 (.row [.int .i64 5, .str [], d2, d3, .int .i64 0, .str [], .nils, .nils, .nilp, .nils] 0 false (some 75))) (((bs ++ x) ++ y) ++ x3) s3 out2 := by
      have b3 := (y2.force z4 z3).bld
      obtain ⟨a', bv, w1, w2, w3⟩ := b3
      have hne : ¬ kw = k3 := apart_ty w2 g3'' (by decide)
      exact ⟨st4, ⟨a', bv, w1, put_ne hne w2, w3.put (by decide) g3''⟩, y2.len, y2.byte⟩
    have hsay := e38 F kw kc _ _ s3 out2 [32] ps4 (by decide) (by decide)
    rw [loop_succ]
    cases hs : sayA out2 [32] s3 with
    | stop k t s4 =>
      rw [hs] at h hsay
      obtain rfl := (Option.some.inj h).symm
      obtain ⟨H5, w1, w2, w3⟩ := hsay
      simp -implicitDefEqProofs only [c26_l0, ↓v_lenS, ZZ, Nat.reduceBEq, reduceIte, Nat.reduceAdd, Nat.reduceLeDiff, Nat.reduceEqDiff, Nat.reduceBneDiff, CL, r0, r3, g3, q1, y1, g3', z1, g3'', Int.reduceBNe, hd2, hd3, w1]
      exact ⟨H5, rfl, w2, kp4.trans w3⟩
    | val o3 s4 =>
      rw [hs] at h hsay
      obtain ⟨rfl, rfl⟩ := say_val hs
      have h : rowA F m (out2 ++ [32]) c d s4 = some o := h
      obtain ⟨v5, H5, x5, w1, w2, w3⟩ := hsay
      simp -implicitDefEqProofs only [c26_l0, ↓v_lenS, ZZ, Nat.reduceBEq, reduceIte, Nat.reduceAdd, Nat.reduceLeDiff, Nat.reduceEqDiff, Nat.reduceBneDiff, CL, r0, r3, g3, q1, y1, g3', z1, g3'', Int.reduceBNe, hd2, hd3, w1]
      have g35 := w3.get _ _ (show (H3.put k3 (.row [.int .i64 5, .str [], d2, d3, .int .i64 0, .str [], .nils, .nils, .nilp, .nils] 0 false (some 75))).t.get k3 = _ by rw [h_gput, if_pos rfl]) (quietP (by decide) (by decide) (by decide) (by decide))
      refine GiveP.more (x := x) (GiveP.more (x := y) (GiveP.more (x := x3) (GiveP.more (x := x5) (eR s4 o hs h kw kc H0 H5 _ _ k3 _ mm KK w2 ⟨d2, d3, rfl, pd2.more, pd3.more⟩ (kp4.trans w3) low0 hk3 ?_ ?_ g35 (by omega) hK))))
      · exact r0
      · exact r3
  · rw [rowA_tail h1 h2 h3 (fun c d e => hw ⟨c, d, e⟩)] at h
    have hT : Ev fun n => ∀ s4 q, sayA out2 [32, 46, 32] s3 = .val (out2 ++ [32, 46, 32]) s4 → printA F m (out2 ++ [32, 46, 32]) w s4 = some q → PrintC F w s4 (out2 ++ [32, 46, 32]) q n := by
      cases hs : sayA out2 [32, 46, 32] s3 with
      | stop k t s4 => exact Ev.of fun n s4 q e => by cases e
      | val o3 s4 =>
        obtain ⟨rfl, rfl⟩ := say_val hs
        have : Ev fun n => ∀ q, printA F m (out2 ++ [32, 46, 32]) w s4 = some q → PrintC F w s4 (out2 ++ [32, 46, 32]) q n := Ev.opt fun q hq => ihP _ _ _ q hq
        refine this.mono fun n hn s4 q e hq => ?_
        simp only [O.val.injEq, true_and] at e
        subst e
        exact hn q hq
    refine (hA.and (hP.and (hB.and hT))).mono fun n hn kw kc H0 H bs cs k3 fr mm KK p hv kp low0 hk3 r0 r3 g3 hm hK => ?_
    obtain ⟨eA, eP, eB, eT⟩ := hn
    obtain ⟨mm, rfl⟩ : ∃ k, mm = k + 1 := ⟨mm - 1, by omega⟩
    obtain ⟨c2, c3, rfl, p2, p3⟩ := hv
    obtain ⟨cs, H', x, q1, q2, q3, q4⟩ := eA kw kc H bs c2 p.st p2
    obtain ⟨u, H2, y, y1, y2, y3⟩ := eP kw kc H' (bs ++ x) cs (p.force q4 q3) q2
    obtain ⟨cw, H3, x3, z1, z2, z3, z4⟩ := eB kw kc H2 _ c3 y2.st (p3.more.more)
    have g3' := y3.get _ _ (q4.get _ _ g3 (quiet (by decide) (by decide))) (quietP (by decide) (by decide) (by decide) (by decide))
    have g3'' := z4.get _ _ g3' (quiet (by decide) (by decide))
    have hb : (w.kind != 5) = true := by
      cases w with
      | pair c d => exact absurd ⟨_, _, rfl⟩ hw
      | fn e env g => rfl
      | atom k t =>
        obtain ⟨_, _, _, _, _, _, _, _, _, _, hk, _⟩ := z2
        simp only [V.kind, bne_iff_ne, ne_eq]; omega
    obtain ⟨tx, d2, d3, d4, d5, d6, d7, d8, d9, rfl, _, _, _, ⟨f2, f3, f4, f5⟩, ⟨f6, f7, f8, f9⟩⟩ := z2.ten
    have st4 := z3.box g3'' (by decide) (ob := .row [.int .i64 w.kind, .str tx, d2, d3, d4, d5, d6, d7, d8, d9] 0 false (some 75))
    have kpA := ((kp.trans q4.toP).trans y3).trans z4.toP
    have kp4 := kpA.own low0 hk3 (z3.low.lt g3'') (ob := .row [.int .i64 w.kind, .str tx, d2, d3, d4, d5, d6, d7, d8, d9] 0 false (some 75))
    have ps4 : PSt F kw kc (H3.put k3 (.row [.int .i64 w.kind, .str tx, d2, d3, d4, d5, d6, d7, d8, d9] 0 false (some 75))) (((bs ++ x) ++ y) ++ x3) s3 out2 := by
      have b3 := (y2.force z4 z3).bld
      obtain ⟨a', bv, w1, w2, w3⟩ := b3
      have hne : ¬ kw = k3 := apart_ty w2 g3'' (by decide)
      exact ⟨st4, ⟨a', bv, w1, put_ne hne w2, w3.put (by decide) g3''⟩, y2.len, y2.byte⟩
    rw [loop_succ]
    simp -implicitDefEqProofs only [c26_l0, ↓v_lenS, ZZ, Nat.reduceBEq, reduceIte, Nat.reduceAdd, Nat.reduceLeDiff, Nat.reduceEqDiff, Nat.reduceBneDiff, CL, r0, r3, g3, q1, y1, g3', z1, g3'', hb, f2, f3, f4, f5, f6, f7, f8, f9]
    refine GiveP.more (x := x) (GiveP.more (x := y) (GiveP.more (x := x3) (hK _ _ _ w _ s3 out2 o m ps4 (z2.stay (Stay.put g3'' (by decide) (by decide) (by decide))) kp4 ?_ ?_ (by rw [h_gput, if_pos rfl]) h eT)))
    · exact r0
    · exact r3
set_option maxHeartbeats 8000000 in
theorem print27 {F m : Nat} (ihR : ∀ out a b s o, rowA F m out a b s = some o → Ev (RowLoop F a b s out o m)) : PrintOk F (m + 1) := by
  intro out v s o h
  rw [printA_s] at h
  cases v with
  | atom k t =>
    obtain rfl := Option.some.inj h
    refine Ev.succ (say38.mono fun n e38 kw kc H bs cs p hv => ?_)
    obtain ⟨c2, c3, c4, c5, c6, c7, c8, c9, rfl, hk1, hk4, hn, ⟨f2, f3, f4, f5⟩, ⟨f6, f7, f8, f9⟩⟩ := hv
    rw [callN_code (P := P5) (sf := c26) rfl (code26 _ _) rfl rfl]
    have p1 : PSt F kw kc (H.push (.row [.int .i64 k, .str t, c2, c3, c4, c5, c6, c7, c8, c9] 0 false (some 75))) bs s out := p.force (HKeep.push p.st.low) p.st.push
    have hs := e38 F kw kc _ bs s out t p1 hn.1.1 hn.1.2
    have hlt : decide (k < 5) = true := by simp; omega
    have k1 : KeepP H (H.push (.row [.int .i64 k, .str t, c2, c3, c4, c5, c6, c7, c8, c9] 0 false (some 75))) := (HKeep.push p.st.low : Keep _ _).toP
    cases hq : sayA out t s with
    | stop k' t' s' =>
      rw [hq] at hs
      obtain ⟨H', q1, q2, q3⟩ := hs
      simp -implicitDefEqProofs only [c26, ↓v_lenS, ZZ, Nat.reduceBEq, reduceIte, Nat.reduceAdd, Nat.reduceLeDiff, Nat.reduceEqDiff, Nat.reduceBneDiff, CL, f2, f3, f4, f5, f6, f7, f8, f9, hlt, q1]
      exact ⟨H', rfl, q2, k1.trans q3⟩
    | val o' s' =>
      rw [hq] at hs
      obtain ⟨u, H', x, q1, q2, q3⟩ := hs
      simp -implicitDefEqProofs only [c26, ↓v_lenS, ZZ, Nat.reduceBEq, reduceIte, Nat.reduceAdd, Nat.reduceLeDiff, Nat.reduceEqDiff, Nat.reduceBneDiff, CL, f2, f3, f4, f5, f6, f7, f8, f9, hlt, q1]
      exact ⟨_, H', x, rfl, q2, k1.trans q3⟩
  | fn e env g =>
    obtain rfl := Option.some.inj h
    obtain ⟨ke, te, nse, ae⟩ := e
    refine Ev.succ (say38.mono fun n e38 kw kc H bs cs p hv => ?_)
    obtain ⟨t, c2, c3, c4, c5, c6, c7, c8, c9, rfl, _, _, _, ⟨f2, f3, f4, f5⟩, ⟨f6, f7, f8, f9⟩⟩ := hv.ten
    rw [callN_code (P := P5) (sf := c26) rfl (code26 _ _) rfl rfl]
    simp only [V.kind] at hv ⊢
    have p1 : PSt F kw kc (H.push (.row [.int .i64 6, .str t, c2, c3, c4, c5, c6, c7, c8, c9] 0 false (some 75))) bs s out := p.force (HKeep.push p.st.low) p.st.push
    have hs := e38 F kw kc _ bs s out [35, 60, 102, 117, 110, 99, 116, 105, 111, 110, 62] p1 (by decide) (by decide)
    have hlt : decide ((6 : Int) < 5) = false := by decide
    have k1 : KeepP H (H.push (.row [.int .i64 6, .str t, c2, c3, c4, c5, c6, c7, c8, c9] 0 false (some 75))) := (HKeep.push p.st.low : Keep _ _).toP
    cases hq : sayA out [35, 60, 102, 117, 110, 99, 116, 105, 111, 110, 62] s with
    | stop k' t' s' =>
      rw [hq] at hs
      obtain ⟨H', q1, q2, q3⟩ := hs
      simp -implicitDefEqProofs only [c26, ↓v_lenS, ZZ, Nat.reduceBEq, reduceIte, Nat.reduceAdd, Nat.reduceLeDiff, Nat.reduceEqDiff, Nat.reduceBneDiff, CL, f2, f3, f4, f5, f6, f7, f8, f9, hlt, Int.reduceBEq, q1]
      exact ⟨H', rfl, q2, k1.trans q3⟩
    | val o' s' =>
      rw [hq] at hs
      obtain ⟨u, H', x, q1, q2, q3⟩ := hs
      simp -implicitDefEqProofs only [c26, ↓v_lenS, ZZ, Nat.reduceBEq, reduceIte, Nat.reduceAdd, Nat.reduceLeDiff, Nat.reduceEqDiff, Nat.reduceBneDiff, CL, f2, f3, f4, f5, f6, f7, f8, f9, hlt, Int.reduceBEq, q1]
      exact ⟨_, H', x, rfl, q2, k1.trans q3⟩
  | pair a b =>
    replace h : (sayA out [40] s).bind (fun out s => rowA F m out a b s) = some o := h
    have hR : Ev fun n => ∀ s4 q, sayA out [40] s = .val (out ++ [40]) s4 → rowA F m (out ++ [40]) a b s4 = some q → RowLoop F a b s4 (out ++ [40]) q m n := by
      cases hs : sayA out [40] s with
      | stop k t s4 => exact Ev.of fun n s4 q e => by cases e
      | val o3 s4 =>
        obtain ⟨rfl, rfl⟩ := say_val hs
        have : Ev fun n => ∀ q, rowA F m (out ++ [40]) a b s4 = some q → RowLoop F a b s4 (out ++ [40]) q m n := Ev.opt fun q hq => ihR _ _ _ _ q hq
        refine this.mono fun n hn s4 q e hq => ?_
        simp only [O.val.injEq, true_and] at e
        subst e
        exact hn q hq
    refine Ev.succ ((say38.and (hR.and (Ev.ge (m + 3)))).mono fun n hn kw kc H bs cs p hv => ?_)
    obtain ⟨e38, eR, hn⟩ := hn
    obtain ⟨c2, c3, rfl, p2, p3⟩ := hv
    rw [callN_code (P := P5) (sf := c26) rfl (code26 _ _) rfl rfl]
    have p1 : PSt F kw kc (H.push (.row [.int .i64 5, .str [], c2, c3, .int .i64 0, .str [], .nils, .nils, .nilp, .nils] 0 false (some 75))) bs s out := p.force (HKeep.push p.st.low) p.st.push
    have k1 : KeepP H (H.push (.row [.int .i64 5, .str [], c2, c3, .int .i64 0, .str [], .nils, .nils, .nilp, .nils] 0 false (some 75))) := (HKeep.push p.st.low : Keep _ _).toP
    have g1 : (H.push (.row [.int .i64 5, .str [], c2, c3, .int .i64 0, .str [], .nils, .nils, .nilp, .nils] 0 false (some 75))).t.get H.n = some (.row [.int .i64 5, .str [], c2, c3, .int .i64 0, .str [], .nils, .nils, .nilp, .nils] 0 false (some 75)) := by rw [h_get, if_pos rfl]
    have hsay := e38 F kw kc _ bs s out [40] p1 (by decide) (by decide)
    have hf2 : c2.flat = true := by obtain ⟨_, _, rfl⟩ := p2; rfl
    have hf3 : c3.flat = true := by obtain ⟨_, _, rfl⟩ := p3; rfl
    have hlt : decide ((5 : Int) < 5) = false := by decide
    cases hs : sayA out [40] s with
    | stop k t s4 =>
      rw [hs] at h hsay
      obtain rfl := (Option.some.inj h).symm
      obtain ⟨H5, w1, w2, w3⟩ := hsay
      simp -implicitDefEqProofs only [c26, ↓v_lenS, ZZ, Nat.reduceBEq, reduceIte, Nat.reduceAdd, Nat.reduceLeDiff, Nat.reduceEqDiff, Nat.reduceBneDiff, CL, hf2, hf3, hlt, Int.reduceBEq, w1]
      exact ⟨H5, rfl, w2, k1.trans w3⟩
    | val o3 s4 =>
      rw [hs] at h hsay
      obtain ⟨rfl, rfl⟩ := say_val hs
      have h : rowA F m (out ++ [40]) a b s4 = some o := h
      obtain ⟨v5, H5, x5, w1, w2, w3⟩ := hsay
      have g15 := w3.get _ _ g1 (quietP (by decide) (by decide) (by decide) (by decide))
      simp -implicitDefEqProofs only [c26, ↓v_lenS, ZZ, Nat.reduceBEq, reduceIte, Nat.reduceAdd, Nat.reduceLeDiff, Nat.reduceEqDiff, Nat.reduceBneDiff, CL, hf2, hf3, hlt, Int.reduceBEq, w1]
      refine GiveP.more (x := x5) (eR s4 o hs h kw kc H H5 _ _ H.n _ n _ w2 ⟨c2, c3, rfl, p2.more, p3.more⟩ (k1.trans w3) p.st.low (Nat.le_refl _) ?_ ?_ g15 (by omega) ?_)
      · rfl
      · rfl
      intro fr' H' bs' w cs' s' out' o' d ps hv' kp r0 r3 g3 hT hPC
      obtain ⟨tx, d2, d3, d4, d5, d6, d7, d8, d9, rfl, _, _, _, ⟨f2, f3, f4, f5⟩, ⟨f6, f7, f8, f9⟩⟩ := hv'.ten
      unfold tailF at hT
      -- the bracket at the end
      have close : ∀ H6 bs6 s6 out6, PSt F kw kc H6 bs6 s6 out6 → KeepP H H6 → ∀ (K : R), (∀ H7 p7, callN P5 n 45 [.ptr (.new kw) 0, .str [41]] H6 = some (.panic p7, H7) → K = some (.panic p7, H7)) → (∀ u7 H7, callN P5 n 45 [.ptr (.new kw) 0, .str [41]] H6 = some (.ret u7, H7) → ∃ u8, K = some (.ret u8, H7)) → GiveP F kw kc H bs6 K (sayA out6 [41] s6) := by
        intro H6 bs6 s6 out6 p6 k6 K h1 h2
        have hs := e38 F kw kc H6 bs6 s6 out6 [41] p6 (by decide) (by decide)
        cases hq : sayA out6 [41] s6 with
        | stop k' t' s' =>
          rw [hq] at hs
          obtain ⟨H7, q1, q2, q3⟩ := hs
          exact ⟨H7, h1 _ _ q1, q2, k6.trans q3⟩
        | val o7 s7 =>
          rw [hq] at hs
          obtain ⟨u, H7, x, q1, q2, q3⟩ := hs
          obtain ⟨u8, e8⟩ := h2 _ _ q1
          exact ⟨u8, H7, x, e8, q2, k6.trans q3⟩
      by_cases hk3 : w.kind = 3
      · rw [if_pos hk3] at hT
        obtain rfl := Option.some.inj hT
        have hb : (w.kind != 3) = false := by simp [hk3]
        refine close H' bs' s' out' ps kp _ ?_ ?_
        · intro H7 p7 e
          simp -implicitDefEqProofs only [↓v_lenS, ZZ, Nat.reduceBEq, reduceIte, Nat.reduceAdd, Nat.reduceLeDiff, Nat.reduceEqDiff, Nat.reduceBneDiff, CL, r0, r3, g3, hb, e]
        · intro u7 H7 e
          simp -implicitDefEqProofs only [↓v_lenS, ZZ, Nat.reduceBEq, reduceIte, Nat.reduceAdd, Nat.reduceLeDiff, Nat.reduceEqDiff, Nat.reduceBneDiff, CL, r0, r3, g3, hb, e]
          exact ⟨_, rfl⟩
      · rw [if_neg hk3] at hT
        have hb : (w.kind != 3) = true := by simpa using hk3
        have hs2 := e38 F kw kc H' bs' s' out' [32, 46, 32] ps (by decide) (by decide)
        cases hq : sayA out' [32, 46, 32] s' with
        | stop k' t' s6 =>
          rw [hq] at hs2 hT
          obtain rfl := (Option.some.inj hT).symm
          obtain ⟨H7, q1, q2, q3⟩ := hs2
          simp -implicitDefEqProofs only [↓v_lenS, ZZ, Nat.reduceBEq, reduceIte, Nat.reduceAdd, Nat.reduceLeDiff, Nat.reduceEqDiff, Nat.reduceBneDiff, CL, r0, r3, g3, hb, q1]
          exact ⟨H7, rfl, q2, kp.trans q3⟩
        | val o6 s6 =>
          rw [hq] at hs2 hT
          obtain ⟨rfl, rfl⟩ := say_val hq
          have hT : ((printA F d (out' ++ [32, 46, 32]) w s6).bind fun r => r.bind fun out s => some (sayA out [41] s)) = some o' := hT
          obtain ⟨q, hq2, hT⟩ := Option.bind_eq_some_iff.1 hT
          obtain ⟨u, H7, x, q1, q2, q3⟩ := hs2
          have g37 := q3.get _ _ g3 (quietP (by decide) (by decide) (by decide) (by decide))
          have hp := hPC s6 q hq hq2 kw kc H7 (bs' ++ x) _ q2 (hv'.keep q3.stayP)
          cases q with
          | stop k8 t8 s8 =>
            obtain rfl := (Option.some.inj hT).symm
            obtain ⟨H8, z1, z2, z3⟩ := hp
            simp -implicitDefEqProofs only [↓v_lenS, ZZ, Nat.reduceBEq, reduceIte, Nat.reduceAdd, Nat.reduceLeDiff, Nat.reduceEqDiff, Nat.reduceBneDiff, CL, r0, r3, g3, hb, q1, g37, f2, f3, f4, f5, f6, f7, f8, f9, z1]
            exact ⟨H8, rfl, z2, (kp.trans q3).trans z3⟩
          | val o8 s8 =>
            have hT : some (sayA o8 [41] s8) = some o' := hT
            obtain rfl := Option.some.inj hT
            obtain ⟨u8, H8, y, z1, z2, z3⟩ := hp
            refine GiveP.more (x := x) (GiveP.more (x := y) (close H8 _ s8 o8 z2 ((kp.trans q3).trans z3) _ ?_ ?_))
            · intro H9 p9 e
              simp -implicitDefEqProofs only [↓v_lenS, ZZ, Nat.reduceBEq, reduceIte, Nat.reduceAdd, Nat.reduceLeDiff, Nat.reduceEqDiff, Nat.reduceBneDiff, CL, r0, r3, g3, hb, q1, g37, f2, f3, f4, f5, f6, f7, f8, f9, z1, e]
            · intro u9 H9 e
              simp -implicitDefEqProofs only [↓v_lenS, ZZ, Nat.reduceBEq, reduceIte, Nat.reduceAdd, Nat.reduceLeDiff, Nat.reduceEqDiff, Nat.reduceBneDiff, CL, r0, r3, g3, hb, q1, g37, f2, f3, f4, f5, f6, f7, f8, f9, z1, e]
              exact ⟨_, rfl⟩
theorem print_ok (F : Nat) : ∀ m, PrintOk F m ∧ ∀ out a b s o, rowA F m out a b s = some o → Ev (RowLoop F a b s out o m) := by
  intro m
  induction m with
  | zero => exact ⟨fun out v s o h => by simp [printA] at h, fun out a b s o h => by simp [rowA] at h⟩
  | succ m ih => exact ⟨print27 ih.2, row_loop (machine_ok F m).2.1 ih.1 ih.2⟩
end Go.Lite

/-
  The document's machine always comes to something: terms that are well formed, cells that are there.
-/
namespace Go.Lite
mutual
def X.wf : X → Prop
  | .mk k t ns l => (k = 6 → l ≠ []) ∧ (k = 7 → l ≠ []) ∧ (k = 8 → l.length = 3) ∧ (k = 9 → ns.length < l.length) ∧ (k = 10 → l.length = 1 ∨ l.length = 2) ∧ X.wfs l
def X.wfs : List X → Prop
  | [] => True
  | x :: xs => x.wf ∧ X.wfs xs
end
def EnvIn (N : Nat) (env : Env) : Prop := ∀ p ∈ env, p.2 < N
def AllIn (N : Nat) (l : List Nat) : Prop := ∀ i ∈ l, i < N
def V.ok (N : Nat) : V → Prop
  | .atom _ _ => True
  | .pair a b => a < N ∧ b < N
  | .fn (.mk _ _ _ a) env g => X.wfs a ∧ a ≠ [] ∧ EnvIn N env ∧ AllIn N g
def C.ok (N : Nat) : C → Prop
  | .wait e env => e.wf ∧ EnvIn N env
  | .busy e env => e.wf ∧ EnvIn N env
  | .done v => v.ok N
def S.ok (s : S) : Prop := ∀ c ∈ s.cells, c.ok s.cells.length
theorem EnvIn.mono {N M : Nat} {env : Env} (h : EnvIn N env) (hm : N ≤ M) : EnvIn M env := fun p hp => Nat.lt_of_lt_of_le (h p hp) hm
theorem AllIn.mono {N M : Nat} {l : List Nat} (h : AllIn N l) (hm : N ≤ M) : AllIn M l := fun p hp => Nat.lt_of_lt_of_le (h p hp) hm
theorem V.ok.mono {N M : Nat} {v : V} (h : v.ok N) (hm : N ≤ M) : v.ok M := by
  cases v with
  | atom k t => trivial
  | pair a b => exact ⟨Nat.lt_of_lt_of_le h.1 hm, Nat.lt_of_lt_of_le h.2 hm⟩
  | fn e env g => obtain ⟨k, t, ns, a⟩ := e; exact ⟨h.1, h.2.1, h.2.2.1.mono hm, h.2.2.2.mono hm⟩
theorem C.ok.mono {N M : Nat} {c : C} (h : c.ok N) (hm : N ≤ M) : c.ok M := by
  cases c with
  | wait e env => exact ⟨h.1, h.2.mono hm⟩
  | busy e env => exact ⟨h.1, h.2.mono hm⟩
  | done v => exact V.ok.mono h hm
theorem S.ok.new {s : S} (h : s.ok) {c : C} (hc : c.ok (s.cells.length + 1)) : (s.new c).2.ok := by
  intro c' hc'
  simp only [S.new, List.mem_append, List.mem_singleton, List.length_append, List.length_singleton] at hc' ⊢
  rcases hc' with hc' | rfl
  · exact (h c' hc').mono (by omega)
  · exact hc
theorem S.ok.set {s : S} (h : s.ok) {i : Nat} {c : C} (hc : c.ok s.cells.length) : (s.set i c).ok := by
  intro c' hc'
  simp only [S.set, List.length_set] at hc' ⊢
  rcases List.mem_or_eq_of_mem_set hc' with h' | rfl
  · exact h c' h'
  · exact hc
theorem S.ok.tick {s : S} (h : s.ok) : s.tick.ok := h
theorem S.ok.used {s : S} (h : s.ok) : s.used.ok := h
theorem S.ok.more {s : S} (h : s.ok) {cs : List C} (hc : ∀ c ∈ cs, c.ok (s.cells.length + cs.length)) : (s.more cs).ok := by
  intro c' hc'
  simp only [S.more, List.mem_append, List.length_append] at hc' ⊢
  rcases hc' with hc' | hc'
  · exact (h c' hc').mono (by omega)
  · exact hc c' hc'
def Grows (s s' : S) : Prop := s'.ok ∧ s.cells.length ≤ s'.cells.length ∧ s'.steps = s.steps ∧ s'.uses = s.uses
theorem Grows.refl {s : S} (h : s.ok) : Grows s s := ⟨h, Nat.le_refl _, rfl, rfl⟩
theorem Grows.trans {a b c : S} (h : Grows a b) (k : Grows b c) : Grows a c := ⟨k.1, Nat.le_trans h.2.1 k.2.1, k.2.2.1.trans h.2.2.1, k.2.2.2.trans h.2.2.2⟩
theorem Grows.new {s : S} (h : s.ok) {c : C} (hc : c.ok (s.cells.length + 1)) : Grows s (s.new c).2 ∧ (s.new c).1 < (s.new c).2.cells.length :=
  ⟨⟨h.new hc, by simp [S.new], rfl, rfl⟩, by simp [S.new]⟩
def endK (fuel : Nat) (s : S) (k : Int) (s' : S) : Prop := s.steps ≤ s'.steps ∧ (k = 2 ∨ k = 3 ∨ k = 6 ∨ k = 7) ∧ (k = 6 → s'.steps = fuel + 1) ∧ (k ≠ 6 → s'.steps ≤ fuel)
def GoodO (fuel : Nat) (s : S) (d : Nat) : O V → Prop
  | .val v s' => s'.ok ∧ v.ok s'.cells.length ∧ s.cells.length ≤ s'.cells.length ∧ s.steps + d ≤ s'.steps ∧ s'.steps ≤ fuel
  | .stop k _ s' => endK fuel s k s'
theorem GoodO.from {fuel : Nat} {s s1 : S} {d d1 : Nat} {o : O V} (h : GoodO fuel s1 d1 o) (hc : s.cells.length ≤ s1.cells.length) (hs : s.steps + d ≤ s1.steps + d1) (hs' : s.steps ≤ s1.steps) : GoodO fuel s d o := by
  cases o with
  | val v s' => obtain ⟨h1, h2, h3, h4, h5⟩ := h; exact ⟨h1, h2, by omega, by omega, h5⟩
  | stop k t s' => obtain ⟨h1, h2, h3⟩ := h; exact ⟨by omega, h2, h3⟩
/-! ### What is printed -/
def GoodP (fuel : Nat) (s : S) (out : Str) : O Str → Prop
  | .val out' s' => s'.ok ∧ s.cells.length ≤ s'.cells.length ∧ s.steps ≤ s'.steps ∧ s'.steps ≤ fuel ∧ out.length ≤ out'.length ∧ out'.length ≤ 2000
  | .stop k _ s' => endK fuel s k s'
theorem GoodP.from {fuel : Nat} {s s1 : S} {out out1 : Str} {o : O Str} (h : GoodP fuel s1 out1 o) (hc : s.cells.length ≤ s1.cells.length) (hs : s.steps ≤ s1.steps) (ho : out.length ≤ out1.length) : GoodP fuel s out o := by
  cases o with
  | val v s' => obtain ⟨h1, h2, h3, h4, h5, h6⟩ := h; exact ⟨h1, by omega, by omega, h4, by omega, h6⟩
  | stop k t s' => obtain ⟨h1, h2, h3⟩ := h; exact ⟨by omega, h2, h3⟩
noncomputable section
def outA (n : Nat) (e : X) (input : List Str) (fuel : Nat) : Option (O Str) := (evalA fuel n e [(inputT, (inputA input ⟨[], 0, 0⟩).1)] (inputA input ⟨[], 0, 0⟩).2).bind fun r => r.bind fun v s => printA fuel n [] v s
end
end Go.Lite

/-
  With less fuel a run is cut.
-/
namespace Go.Lite
def O.st {α : Type} : O α → S
  | .val _ s => s
  | .stop _ _ s => s
end Go.Lite

/-
  What was found at one depth is found deeper.
-/
namespace Go.Lite
def Imp {α : Type} (x y : Option α) : Prop := ∀ o, x = some o → y = some o
theorem Imp.refl {α : Type} {x : Option α} : Imp x x := fun _ h => h
theorem Imp.trans {α : Type} {x y z : Option α} (h : Imp x y) (k : Imp y z) : Imp x z := fun o e => k o (h o e)
end Go.Lite

/-
  Plain laws of the machine: fuel.
-/
namespace Go.Lite
noncomputable section
def O.kind : O Str → Int
  | .val _ _ => 1
  | .stop k _ _ => k
def O.txt : O Str → Str
  | .val t _ => t
  | .stop _ t _ => t
def s0 : S := ⟨[.done (.atom 3 emptyT)], 0, 0⟩
end
end Go.Lite

/-
  natural.Eval's contract.
-/
namespace Go.Lite
open Go Go.Proofs
def resO : O Str → EvR
  | .val out s => ((1, out, 0), s.steps, s.uses)
  | .stop k t s => ((k, t, 0), s.steps, s.uses)
abbrev runH (F : Nat) (B : Heap) (row : List AV) : Heap :=
  (((((((B.push (.row row 0 false (some 28))).push (.row [.int .i64 0, .str [], .int .i64 0] 0 false (some 34))).push (.row [.int .i64 0] 0 false (some 3))).push (.row [.int .i64 0] 0 false (some 3))).push
    (.row [.int .i64 0, .int .i64 0, .int .i64 F] 0 false (some 64))).push (.row [.ptr (.new 4) 0, .nilp, .nils] 0 false (some 69))).push (.row [.nilp] 0 false (some 61))).put 6 (.row [.ptr (.new 5) 0] 0 false (some 61))
theorem runH_st {F : Nat} {B : Heap} {row : List AV} (hB : HLow B) (hn : B.n = 0) (hF : F ≤ 1099511627776) : St F 5 4 (runH F B row) [] ⟨[], 0, 0⟩ 0 := by
  have low : HLow (runH F B row) := hB.push.push.push.push.push.push.push.put (by simp only [h_n, hn]; omega)
  refine ⟨low, ⟨.nilp, .nils, ?_⟩, ?_, by simp, rfl, fun i b c h => by simp at h, Nat.zero_le _, Nat.le_refl _, hF⟩
  · simp -implicitDefEqProofs only [runH, h_gput, h_get, h_n, hn, Nat.reduceAdd, Nat.reduceEqDiff, reduceIte]
  · simp -implicitDefEqProofs only [runH, h_gput, h_get, h_n, hn, Nat.reduceAdd, Nat.reduceEqDiff, reduceIte]; rfl
theorem runH_rows {F : Nat} {B : Heap} {row : List AV} (hn : B.n = 0) : (runH F B row).t.get 0 = some (.row row 0 false (some 28)) ∧ (runH F B row).t.get 1 = some (.row [.int .i64 0, .str [], .int .i64 0] 0 false (some 34)) ∧ (runH F B row).t.get 2 = some (.row [.int .i64 0] 0 false (some 3)) ∧ (runH F B row).t.get 3 = some (.row [.int .i64 0] 0 false (some 3)) ∧
    (runH F B row).t.get 5 = some (.row [.ptr (.new 4) 0, .nilp, .nils] 0 false (some 69)) ∧ (runH F B row).t.get 6 = some (.row [.ptr (.new 5) 0] 0 false (some 61)) := by
  refine ⟨?_, ?_, ?_, ?_, ?_, ?_⟩ <;> simp -implicitDefEqProofs only [runH, h_gput, h_get, h_n, hn, Nat.reduceAdd, Nat.reduceEqDiff, reduceIte]
theorem endAt_of {fr : Fr} {H : Heap} {F : Nat} {s : S} {kz : Int} {t : Str} {z : Int} (r6 : fr 6 = .ptr (.new 1) 0) (r7 : fr 7 = .ptr (.new 2) 0) (r8 : fr 8 = .ptr (.new 3) 0) (r9 : fr 9 = .ptr (.new 6) 0)
    (g6 : H.t.get 1 = some (.row [.int .i64 kz, .str t, .int .i64 z] 0 false (some 34))) (g7 : H.t.get 2 = some (.row [.int .i64 0] 0 false (some 3))) (g8 : H.t.get 3 = some (.row [.int .i64 0] 0 false (some 3)))
    (gw : EndW H 5 4) (gc : H.t.get 4 = some (.row [.int .i64 s.steps, .int .i64 s.uses, .int .i64 F] 0 false (some 64))) (g9 : H.t.get 6 = some (.row [.ptr (.new 5) 0] 0 false (some 61))) : EndAt fr H ((kz, t, z), s.steps, s.uses) :=
  ⟨1, 2, 3, 6, 5, 4, F, r6, r7, r8, r9, ⟨g9, gw, gc, ⟨_, g7⟩, ⟨_, g8⟩, ⟨_, _, _, g6⟩, by decide, by decide, by decide, by decide, by decide, by decide, by decide, by decide⟩, g6⟩
set_option maxHeartbeats 8000000 in
theorem tail_run {n m F : Nat} {k : Int} {t : Str} {ns : List Str} {l : List X} {p : O V} {o : O Str} {x : List Nat} {i : Nat} {sI : S} {cv : AV} {H8 : Heap} {fr : Fr} (h : (p.bind fun v s => printA F m [] v s) = some o)
    (eE : ∀ kw kc H bs ev, St F kw kc H bs sI 1 → EnvR H bs [(inputT, i)] ev → GiveV F kw kc H bs (callN P5 (n + 1) 27 [.ptr (.new kw) 0, .agg [.int .i64 k, .str t, vStrs ns, vXs l], ev] H) p)
    (eP : ∀ v s1, p = .val v s1 → ∀ q, printA F m [] v s1 = some q → PrintC F v s1 [] q (n + 1))
    (r3 : fr 3 = .ptr (.new 0) 0) (r6 : fr 6 = .ptr (.new 1) 0) (r7 : fr 7 = .ptr (.new 2) 0) (r8 : fr 8 = .ptr (.new 3) 0) (r9 : fr 9 = .ptr (.new 6) 0) (r10 : fr 10 = cv)
    (st : St F 5 4 H8 x sI 0) (hc : PC x i cv)
    (w0 : H8.t.get 0 = some (.row [.int .i64 k, .str t, vStrs ns, vXs l] 0 false (some 28))) (w1 : H8.t.get 1 = some (.row [.int .i64 0, .str [], .int .i64 0] 0 false (some 34))) (w2 : H8.t.get 2 = some (.row [.int .i64 0] 0 false (some 3))) (w3 : H8.t.get 3 = some (.row [.int .i64 0] 0 false (some 3)))
    (w5 : H8.t.get 5 = some (.row [.ptr (.new 4) 0, .nilp, .nils] 0 false (some 69))) (w6 : H8.t.get 6 = some (.row [.ptr (.new 5) 0] 0 false (some 61))) : ∃ G, tailE (callN P5 (n + 1)) (n + 1) fr H8 = some (.ret (resV (resO o)), G) := by
  have hcv : cv.flat = true := by obtain ⟨_, _, rfl⟩ := hc; rfl
  have st9 := st.push (ob := .row [.str inputT, cv, .nilp] 0 false (some 80))
  have k9 : Keep H8 (H8.push (.row [.str inputT, cv, .nilp] 0 false (some 80))) := HKeep.push st.low
  have env9 : EnvR (H8.push (.row [.str inputT, cv, .nilp] 0 false (some 80))) x [(inputT, i)] (.ptr (.new H8.n) 0) := .cons (by rw [h_get, if_pos rfl]) hc .nil
  have hcall := eE 5 4 _ x _ (st9.weak (by omega)) env9
  have l6 := st.low.lt w6
  have n6 : ¬ 6 = H8.n := by omega
  have n0 : ¬ 0 = H8.n := by omega
  simp only [inputT] at hcall k9 st9
  cases p with
  | stop kk tt s1 =>
    obtain rfl := (Option.some.inj h).symm
    obtain ⟨H', q1, ⟨q2, q2'⟩, q3⟩ := hcall
    have kk9 := k9.trans q3
    have hend := endAt_of (fr := fr.set 35 .undef) (F := F) (s := s1) (by simp -implicitDefEqProofs only [↓v_lenS, ZZ, Nat.reduceBEq, reduceIte, Nat.reduceAdd, Nat.reduceLeDiff, Nat.reduceEqDiff, Nat.reduceBneDiff, r6]) (by simp -implicitDefEqProofs only [↓v_lenS, ZZ, Nat.reduceBEq, reduceIte, Nat.reduceAdd, Nat.reduceLeDiff, Nat.reduceEqDiff, Nat.reduceBneDiff, r7]) (by simp -implicitDefEqProofs only [↓v_lenS, ZZ, Nat.reduceBEq, reduceIte, Nat.reduceAdd, Nat.reduceLeDiff, Nat.reduceEqDiff, Nat.reduceBneDiff, r8]) (by simp -implicitDefEqProofs only [↓v_lenS, ZZ, Nat.reduceBEq, reduceIte, Nat.reduceAdd, Nat.reduceLeDiff, Nat.reduceEqDiff, Nat.reduceBneDiff, r9])
      (kk9.get _ _ w1 (quiet (by decide) (by decide))) (kk9.get _ _ w2 (quiet (by decide) (by decide))) (kk9.get _ _ w3 (quiet (by decide) (by decide))) ⟨_, _, kk9.get _ _ w5 (quiet (by decide) (by decide))⟩ q2' (kk9.get _ _ w6 (quiet (by decide) (by decide)))
    have hmid : midE (callN P5 (n + 1)) (n + 1) (fr.set 35 .undef) H8 = some (.panic (stopV kk tt), H') := by
      unfold midE
      simp -implicitDefEqProofs only [↓v_lenS, ZZ, Nat.reduceBEq, reduceIte, Nat.reduceAdd, Nat.reduceLeDiff, Nat.reduceEqDiff, Nat.reduceBneDiff, XS, c14f, scL, scR, c12, CL, r3, r9, r10, n6, n0, w6, w0, hcv, q1]
    refine ⟨H', ?_⟩
    unfold tailE
    rw [hmid]
    simp only [endE, caughtE, stopV, if_true, endOf_eq hend, Option.map_some, resO]
  | val v s1 =>
    have h : printA F m [] v s1 = some o := h
    obtain ⟨cs, H', y, q1, q2, q3, q4⟩ := hcall
    have kk9 := k9.trans q4
    have ps : PSt F 5 4 H' (x ++ y) s1 [] := ⟨q3, ⟨_, _, .inl rfl, kk9.get _ _ w5 (quiet (by decide) (by decide)), Acc.nil⟩, Nat.zero_le _, fun c hc => by cases hc⟩
    have hp := eP v s1 rfl o h 5 4 H' (x ++ y) cs ps q2
    have g6' := kk9.get _ _ w6 (quiet (by decide) (by decide))
    cases o with
    | stop kk tt s2 =>
      obtain ⟨H2, z1, ⟨⟨z2, z2'⟩, z3⟩, z4⟩ := hp
      have kz := kk9.toP.trans z4
      have hend := endAt_of (fr := fr.set 35 .undef) (F := F) (s := s2) (by simp -implicitDefEqProofs only [↓v_lenS, ZZ, Nat.reduceBEq, reduceIte, Nat.reduceAdd, Nat.reduceLeDiff, Nat.reduceEqDiff, Nat.reduceBneDiff, r6]) (by simp -implicitDefEqProofs only [↓v_lenS, ZZ, Nat.reduceBEq, reduceIte, Nat.reduceAdd, Nat.reduceLeDiff, Nat.reduceEqDiff, Nat.reduceBneDiff, r7]) (by simp -implicitDefEqProofs only [↓v_lenS, ZZ, Nat.reduceBEq, reduceIte, Nat.reduceAdd, Nat.reduceLeDiff, Nat.reduceEqDiff, Nat.reduceBneDiff, r8]) (by simp -implicitDefEqProofs only [↓v_lenS, ZZ, Nat.reduceBEq, reduceIte, Nat.reduceAdd, Nat.reduceLeDiff, Nat.reduceEqDiff, Nat.reduceBneDiff, r9])
        (kz.get _ _ w1 (quietP (by decide) (by decide) (by decide) (by decide))) (kz.get _ _ w2 (quietP (by decide) (by decide) (by decide) (by decide))) (kz.get _ _ w3 (quietP (by decide) (by decide) (by decide) (by decide))) z3 z2' (kz.get _ _ w6 (quietP (by decide) (by decide) (by decide) (by decide)))
      have hmid : midE (callN P5 (n + 1)) (n + 1) (fr.set 35 .undef) H8 = some (.panic (stopV kk tt), H2) := by
        unfold midE
        simp -implicitDefEqProofs only [↓v_lenS, ZZ, Nat.reduceBEq, reduceIte, Nat.reduceAdd, Nat.reduceLeDiff, Nat.reduceEqDiff, Nat.reduceBneDiff, XS, c14f, scL, scR, c12, CL, r3, r9, r10, n6, n0, w6, w0, hcv, q1, g6', z1]
      refine ⟨H2, ?_⟩
      unfold tailE
      rw [hmid]
      simp only [endE, caughtE, stopV, if_true, endOf_eq hend, Option.map_some, resO]
    | val out s2 =>
      obtain ⟨u, H2, y2, z1, z2, z4⟩ := hp
      have kz := kk9.toP.trans z4
      have a1 := kz.get _ _ w1 (quietP (by decide) (by decide) (by decide) (by decide))
      have a2 := kz.get _ _ w2 (quietP (by decide) (by decide) (by decide) (by decide))
      have a3 := kz.get _ _ w3 (quietP (by decide) (by decide) (by decide) (by decide))
      have a6 := kz.get _ _ w6 (quietP (by decide) (by decide) (by decide) (by decide))
      obtain ⟨H3, e29, kn⟩ := string29 (n := n) z2.bld z2.byte (by have := z2.len; omega)
      have t3 : ∀ j cs t, H2.t.get j = some (.row cs 0 false (some t)) → t ≠ 5 → H3.t.get j = some (.row cs 0 false (some t)) := fun j cs t g h2 => kn.get _ _ g (by
        rintro ⟨_, _, _, e⟩
        simp only [Obj.row.injEq, Option.some.injEq] at e
        exact h2 e.2.2.2)
      have b1 := t3 _ _ _ a1 (by decide)
      have b2 := t3 _ _ _ a2 (by decide)
      have b3 := t3 _ _ _ a3 (by decide)
      have b6 := t3 _ _ _ a6 (by decide)
      have b4 := t3 _ _ _ z2.st.c (by decide)
      obtain ⟨wa, wb, g5⟩ := z2.st.w
      have b5 := t3 _ _ _ g5 (by decide)
      have hmid : ∃ G, midE (callN P5 (n + 1)) (n + 1) (fr.set 35 .undef) H8 = some (.ret (resV (resO (.val out s2))), G) := by
        unfold midE
        simp -implicitDefEqProofs only [↓v_lenS, ZZ, Nat.reduceBEq, reduceIte, Nat.reduceAdd, Nat.reduceLeDiff, Nat.reduceEqDiff, Nat.reduceBneDiff, XS, c14f, c14g, scL, scR, c12, CL, r3, r6, r7, r8, r9, r10, n6, n0, w6, w0, hcv, q1, g6', z1, a6, g5, e29, stepE, b1, b2, b3, b6, Nat.reduceEqDiff]
        have n21 : ¬ (1 : Nat) = 2 := by decide
        have hend := endAt_of (fr := fr.set 35 .undef) (H := ((H3.put 1 (.row [.int .i64 1, .str out, .int .i64 0] 0 false (some 34))).put 2 (.row [.int .i64 0] 0 false (some 3))).put 3 (.row [.int .i64 0] 0 false (some 3))) (F := F) (s := s2) (kz := 1) (t := out) (z := 0) (by simp -implicitDefEqProofs only [↓v_lenS, ZZ, Nat.reduceBEq, reduceIte, Nat.reduceAdd, Nat.reduceLeDiff, Nat.reduceEqDiff, Nat.reduceBneDiff, r6]) (by simp -implicitDefEqProofs only [↓v_lenS, ZZ, Nat.reduceBEq, reduceIte, Nat.reduceAdd, Nat.reduceLeDiff, Nat.reduceEqDiff, Nat.reduceBneDiff, r7]) (by simp -implicitDefEqProofs only [↓v_lenS, ZZ, Nat.reduceBEq, reduceIte, Nat.reduceAdd, Nat.reduceLeDiff, Nat.reduceEqDiff, Nat.reduceBneDiff, r8]) (by simp -implicitDefEqProofs only [↓v_lenS, ZZ, Nat.reduceBEq, reduceIte, Nat.reduceAdd, Nat.reduceLeDiff, Nat.reduceEqDiff, Nat.reduceBneDiff, r9])
          (by rw [h_gput, if_neg (by decide), h_gput, if_neg (by decide), h_gput, if_pos rfl]) (by rw [h_gput, if_neg (by decide), h_gput, if_pos rfl]) (by rw [h_gput, if_pos rfl]) ⟨wa, wb, by rw [h_gput, if_neg (by decide), h_gput, if_neg (by decide), h_gput, if_neg (by decide)]; exact b5⟩
          (by rw [h_gput, if_neg (by decide), h_gput, if_neg (by decide), h_gput, if_neg (by decide)]; exact b4) (by rw [h_gput, if_neg (by decide), h_gput, if_neg (by decide), h_gput, if_neg (by decide)]; exact b6)
        rw [doneE_eq hend (by simp -implicitDefEqProofs only [↓v_lenS, ZZ, Nat.reduceBEq, reduceIte, Nat.reduceAdd, Nat.reduceLeDiff, Nat.reduceEqDiff, Nat.reduceBneDiff]) (by simp -implicitDefEqProofs only [↓v_lenS, ZZ, Nat.reduceBEq, reduceIte, Nat.reduceAdd, Nat.reduceLeDiff, Nat.reduceEqDiff, Nat.reduceBneDiff]) (by simp -implicitDefEqProofs only [↓v_lenS, ZZ, Nat.reduceBEq, reduceIte, Nat.reduceAdd, Nat.reduceLeDiff, Nat.reduceEqDiff, Nat.reduceBneDiff]) (by simp -implicitDefEqProofs only [↓v_lenS, ZZ, Nat.reduceBEq, reduceIte, Nat.reduceAdd, Nat.reduceLeDiff, Nat.reduceEqDiff, Nat.reduceBneDiff])]
        exact ⟨_, rfl⟩
      obtain ⟨G, hmid⟩ := hmid
      exact ⟨G, by unfold tailE; rw [hmid]; rfl⟩
theorem st_num {H : Heap} {bs : List Nat} {t : Str} (h : numOk 1 t) : ValR H bs (.atom 1 t) [.int .i64 1, .str t, .nilp, .nilp, .int .i64 0, .str [], .nils, .nils, .nilp, .nils] :=
  ⟨_, _, _, _, _, _, _, _, rfl, by decide, by decide, h, ⟨rfl, rfl, rfl, rfl⟩, ⟨rfl, rfl, rfl, rfl⟩⟩
set_option maxHeartbeats 8000000 in
theorem inputs14 {n F : Nat} {l : List Str} (hl : ∀ t ∈ l, numOk 1 t) (hll : l.length ≤ 1000000) (hn : l.length + 3 ≤ n)
    (e25 : ∀ F kw kc d H bs cs s v, St F kw kc H bs s d → ValR H bs v cs → GiveC F kw kc d H bs (callN P5 (n + 1) 24 [.agg cs] H) (s.new (.done v)))
    {fr : Fr} {H8 : Heap} {x : List Nat} {cv : AV} {P : R → Prop} {K : Fr → Heap → R} (st : St F 5 4 H8 x (inputA [] ⟨[], 0, 0⟩).2 0) (hp : PC x (inputA [] ⟨[], 0, 0⟩).1 cv) (r1 : fr 1 = vStrs l) (r10 : fr 10 = cv)
    (hK : ∀ fr' H' y cv', St F 5 4 H' (x ++ y) (inputA l ⟨[], 0, 0⟩).2 0 → PC (x ++ y) (inputA l ⟨[], 0, 0⟩).1 cv' → Keep H8 H' → fr' 10 = cv' → fr' 3 = fr 3 → fr' 6 = fr 6 → fr' 7 = fr 7 → fr' 8 = fr 8 → fr' 9 = fr 9 → P (K fr' H')) :
    P (stepE (callN P5 (n + 1)) (n + 1) c14d K fr H8) := by
  unfold stepE
  have hw0 : IntKind.i64.wrap ((l.length : Int) - 1) = (l.length : Int) - 1 := wrap64 (by omega) (by omega)
  simp -implicitDefEqProofs only [c14d, scL, scR, c12, ↓v_lenS, ZZ, Nat.reduceBEq, reduceIte, Nat.reduceAdd, Nat.reduceLeDiff, Nat.reduceEqDiff, Nat.reduceBneDiff, XS, r1, r10, hw0]
  refine loop_roundsP (P := P) l.length (fun j fr' H' => ∃ y cv', St F 5 4 H' (x ++ y) (inputA (l.drop (l.length - j)) ⟨[], 0, 0⟩).2 0 ∧ PC (x ++ y) (inputA (l.drop (l.length - j)) ⟨[], 0, 0⟩).1 cv' ∧ Keep H8 H' ∧ fr' 10 = cv' ∧ fr' 11 = .int .i64 ((l.length : Int) - 1 - j) ∧ fr' 1 = vStrs l ∧ fr' 3 = fr 3 ∧ fr' 6 = fr 6 ∧ fr' 7 = fr 7 ∧ fr' 8 = fr 8 ∧ fr' 9 = fr 9) ?_ ?_ (n + 1) 0 _ _ (Nat.zero_le _) (by omega) ?_
  · rintro j fr' H' K' hj ⟨y, cv', st', hp', kp, q10, q11, q1, q3, q6, q7, q8, q9⟩ hKe hKr hKn
    have hge : ((l.length - (j + 1) : Nat) : Int) ≥ 0 := by omega
    have hw : IntKind.i64.wrap (((l.length - (j + 1) : Nat) : Int) - 1) = (l.length : Int) - 1 - (j + 1 : Nat) := by rw [wrap64 (by omega) (by omega)]; omega
    have hi : l.length - (j + 1) < l.length := by omega
    have hd : l.drop (l.length - (j + 1)) = l[l.length - (j + 1)] :: l.drop (l.length - j) := by
      rw [List.drop_eq_getElem_cons hi]
      congr 2; omega
    have hix : (l.length : Int) - 1 - j = ((l.length - (j + 1) : Nat) : Int) := by omega
    have it := iaddr_vStrs (List.getElem?_eq_getElem hi)
    have hnum := hl _ (List.getElem_mem hi)
    rw [hix] at q11
    generalize l[l.length - (j + 1)] = t at hd it hnum
    obtain ⟨ca, H1, z1, x1, z2, z3, z4⟩ := e25 F 5 4 0 H' (x ++ y) _ _ _ st' (st_num hnum)
    obtain ⟨cb, H2, u1, x2, u2, u3, u4⟩ := e25 F 5 4 0 H1 (x ++ y ++ x1) [.int .i64 5, .str [], ca, cv', .int .i64 0, .str [], .nils, .nils, .nilp, .nils] _ (.pair _ _) z2 ⟨_, _, rfl, z3, hp'.more⟩
    have fcv : cv'.flat = true := by obtain ⟨_, _, rfl⟩ := hp'; rfl
    have fca : ca.flat = true := by obtain ⟨_, _, rfl⟩ := z3; rfl
    simp -implicitDefEqProofs only [c12_l0, ↓v_lenS, ZZ, Nat.reduceBEq, reduceIte, Nat.reduceAdd, Nat.reduceLeDiff, Nat.reduceEqDiff, Nat.reduceBneDiff, CL, q10, q11, q1, hge, hw, it, z1, fcv, fca, u1]
    refine hKn _ _ ⟨y ++ x1 ++ x2, cb, ?_, ?_, (kp.trans z4).trans u4, ?_, ?_, ?_, ?_, ?_, ?_, ?_, ?_⟩
    · rw [hd, inputA]
      simpa only [List.append_assoc] using u2
    · rw [hd, inputA]
      simpa only [List.append_assoc] using u3
    all_goals simp -implicitDefEqProofs only [↓v_lenS, ZZ, Nat.reduceBEq, reduceIte, Nat.reduceAdd, Nat.reduceLeDiff, Nat.reduceEqDiff, Nat.reduceBneDiff, q1, q3, q6, q7, q8, q9]
  · rintro fr' H' K' ⟨y, cv', st', hp', kp, q10, q11, q1, q3, q6, q7, q8, q9⟩ hKe hKr
    have hge : ¬ (l.length : Int) - 1 - l.length ≥ 0 := by omega
    rw [Nat.sub_self, List.drop_zero] at st' hp'
    simp -implicitDefEqProofs only [c12_l0, ↓v_lenS, ZZ, Nat.reduceBEq, reduceIte, Nat.reduceAdd, Nat.reduceLeDiff, Nat.reduceEqDiff, Nat.reduceBneDiff, q11, hge, hKe]
    exact hK _ _ _ _ st' hp' kp (by simpa -implicitDefEqProofs only [↓v_lenS, ZZ, Nat.reduceBEq, reduceIte, Nat.reduceAdd, Nat.reduceLeDiff, Nat.reduceEqDiff, Nat.reduceBneDiff] using q10) (by simpa -implicitDefEqProofs only [↓v_lenS, ZZ, Nat.reduceBEq, reduceIte, Nat.reduceAdd, Nat.reduceLeDiff, Nat.reduceEqDiff, Nat.reduceBneDiff] using q3) (by simpa -implicitDefEqProofs only [↓v_lenS, ZZ, Nat.reduceBEq, reduceIte, Nat.reduceAdd, Nat.reduceLeDiff, Nat.reduceEqDiff, Nat.reduceBneDiff] using q6) (by simpa -implicitDefEqProofs only [↓v_lenS, ZZ, Nat.reduceBEq, reduceIte, Nat.reduceAdd, Nat.reduceLeDiff, Nat.reduceEqDiff, Nat.reduceBneDiff] using q7) (by simpa -implicitDefEqProofs only [↓v_lenS, ZZ, Nat.reduceBEq, reduceIte, Nat.reduceAdd, Nat.reduceLeDiff, Nat.reduceEqDiff, Nat.reduceBneDiff] using q8) (by simpa -implicitDefEqProofs only [↓v_lenS, ZZ, Nat.reduceBEq, reduceIte, Nat.reduceAdd, Nat.reduceLeDiff, Nat.reduceEqDiff, Nat.reduceBneDiff] using q9)
  · have h0 : l.drop (l.length - 0) = [] := by simp
    refine ⟨[], cv, ?_, ?_, HKeep.refl, ?_, ?_, ?_, ?_, ?_, ?_, ?_, ?_⟩
    · rw [h0, List.append_nil]; exact st
    · rw [h0, List.append_nil]; exact hp
    all_goals simp -implicitDefEqProofs only [↓v_lenS, ZZ, Nat.reduceBEq, reduceIte, Nat.reduceAdd, Nat.reduceLeDiff, Nat.reduceEqDiff, Nat.reduceBneDiff, r1, r10]
    simp
theorem stepE_a {call : CallF} {n : Nat} {K : Fr → Heap → R} {fr : Fr} {H : Heap} : stepE call n c14a K fr H = c14a.run call n fr H fun e fr H => match e with | .normal => K fr H | _ => none := rfl
theorem stepE_b {call : CallF} {n : Nat} {K : Fr → Heap → R} {fr : Fr} {H : Heap} : stepE call n c14b K fr H = c14b.run call n fr H fun e fr H => match e with | .normal => K fr H | _ => none := rfl
theorem stepE_c {call : CallF} {n : Nat} {K : Fr → Heap → R} {fr : Fr} {H : Heap} : stepE call n c14c K fr H = c14c.run call n fr H fun e fr H => match e with | .normal => K fr H | _ => none := rfl
set_option maxHeartbeats 8000000 in
theorem eval14I (e : X) (ht : e.tame) (l : List Str) (hl : ∀ t ∈ l, numOk 1 t) (hll : l.length ≤ 1000000) (F : Nat) (hF : F ≤ 1099511627776) {m : Nat} {o : O Str} (h : outA m e l F = some o) : ∀ H, gEval [e.v, vStrs l, .int .i64 F] H = some (.ret (resV (resO o)), H) := by
  intro H
  refine gEval_eq ?_
  unfold outA at h
  obtain ⟨p, hp, hh⟩ := Option.bind_eq_some_iff.1 h
  have hE := (machine_ok F m).1 e _ _ p ht hp
  have hP : Ev fun n => ∀ v s1, p = .val v s1 → ∀ q, printA F m [] v s1 = some q → PrintC F v s1 [] q n := Ev.val fun v s1 _ => Ev.opt fun q hq => (print_ok F m).1 [] v s1 q hq
  refine (hE.and (hP.and (done25.and (Ev.ge (l.length + 5))))).mono fun n hn => ?_
  obtain ⟨eE, eP, e25, hn⟩ := hn
  obtain ⟨k, t, ns, a⟩ := e
  have low0 : HLow H.bare := HLow.bare
  have n0 : H.bare.n = 0 := rfl
  have st0 := runH_st (row := [.int .i64 k, .str t, vStrs ns, vXs a]) low0 n0 hF
  obtain ⟨cv, H8, z1, x, z2, z3, z4⟩ := e25 F 5 4 0 _ [] [.int .i64 3, .str [40, 41], .nilp, .nilp, .int .i64 0, .str [], .nils, .nils, .nilp, .nils] ⟨[], 0, 0⟩ (.atom 3 emptyT) st0 ⟨_, _, _, _, _, _, _, _, rfl, by decide, by decide, ⟨by decide, fun h => by cases h⟩, ⟨rfl, rfl, rfl, rfl⟩, ⟨rfl, rfl, rfl, rfl⟩⟩
  have hcv : cv.flat = true := by obtain ⟨_, _, rfl⟩ := z3; rfl
  obtain ⟨v0, v1, v2, v3, v5, v6⟩ := runH_rows (F := F) (row := [.int .i64 k, .str t, vStrs ns, vXs a]) n0
  simp only [List.nil_append] at z2 z3
  simp only [X.v_mk] at eE
  obtain ⟨n, rfl⟩ : ∃ k, n = k + 1 := ⟨n - 1, by omega⟩
  simp only [runH] at z1
  unfold gEvalN
  simp -implicitDefEqProofs only [X.v_mk, XS, ↓v_lenS, ZZ, Nat.reduceBEq, reduceIte, Nat.reduceAdd, Nat.reduceLeDiff, Nat.reduceEqDiff, Nat.reduceBneDiff, mapHM_cons, mapHM_nil, opened_res, runE, stepE_a, stepE_b, stepE_c]
  simp -implicitDefEqProofs only [c14a, c14b, c14c, scL, scR, c12, X.v_mk, XS, ↓v_lenS, ZZ, Nat.reduceBEq, reduceIte, Nat.reduceAdd, Nat.reduceLeDiff, Nat.reduceEqDiff, Nat.reduceBneDiff, CL, z1, n0]
  have key : ∀ fr : Fr, fr 3 = .ptr (.new 0) 0 → fr 6 = .ptr (.new 1) 0 → fr 7 = .ptr (.new 2) 0 → fr 8 = .ptr (.new 3) 0 → fr 9 = .ptr (.new 6) 0 → fr 10 = cv → fr 1 = vStrs l → opened H (noPanic (noPanic (stepE (callN P5 (n + 1)) (n + 1) c14d (tailE (callN P5 (n + 1)) (n + 1)) fr H8))) = some (.ret (resV (resO o)), H) := by
    intro fr r3 r6 r7 r8 r9 r10 r1
    have hs := inputs14 (P := fun q => ∃ G, q = some (.ret (resV (resO o)), G)) (K := tailE (callN P5 (n + 1)) (n + 1)) hl hll (by omega) e25 z2 z3 r1 r10 (fun fr' H' y cv' st' hp' kp q10 q3 q6 q7 q8 q9 =>
      tail_run hh eE eP (q3.trans r3) (q6.trans r6) (q7.trans r7) (q8.trans r8) (q9.trans r9) q10 st' hp'
        ((z4.trans kp).get _ _ v0 (quiet (by decide) (by decide))) ((z4.trans kp).get _ _ v1 (quiet (by decide) (by decide))) ((z4.trans kp).get _ _ v2 (quiet (by decide) (by decide))) ((z4.trans kp).get _ _ v3 (quiet (by decide) (by decide))) ((z4.trans kp).get _ _ v5 (quiet (by decide) (by decide))) ((z4.trans kp).get _ _ v6 (quiet (by decide) (by decide))))
    obtain ⟨G, hG⟩ := hs
    rw [hG, noPanic_ret, noPanic_ret, opened_res]
  refine key _ ?_ ?_ ?_ ?_ ?_ ?_ ?_ <;> simp -implicitDefEqProofs only [↓v_lenS, ZZ, Nat.reduceBEq, reduceIte, Nat.reduceAdd, Nat.reduceLeDiff, Nat.reduceEqDiff, Nat.reduceBneDiff]
set_option maxHeartbeats 8000000 in
theorem eval14 (e : X) (ht : e.tame) (F : Nat) (hF : F ≤ 1099511627776) {m : Nat} {o : O Str} (h : outA m e [] F = some o) : ∀ H, gEval [e.v, .nils, .int .i64 F] H = some (.ret (resV (resO o)), H) := by
  intro H
  refine gEval_eq ?_
  unfold outA at h
  have hz : inputA [] ⟨[], 0, 0⟩ = (0, s0) := rfl
  rw [hz] at h
  simp only [] at h
  obtain ⟨p, hp, hh⟩ := Option.bind_eq_some_iff.1 h
  have hE := (machine_ok F m).1 e _ _ p ht hp
  have hP : Ev fun n => ∀ v s1, p = .val v s1 → ∀ q, printA F m [] v s1 = some q → PrintC F v s1 [] q n := Ev.val fun v s1 _ => Ev.opt fun q hq => (print_ok F m).1 [] v s1 q hq
  refine (hE.and (hP.and (done25.and (Ev.ge 3)))).mono fun n hn => ?_
  obtain ⟨eE, eP, e25, hn⟩ := hn
  obtain ⟨k, t, ns, l⟩ := e
  have low0 : HLow H.bare := HLow.bare
  have n0 : H.bare.n = 0 := rfl
  have st0 := runH_st (row := [.int .i64 k, .str t, vStrs ns, vXs l]) low0 n0 hF
  obtain ⟨cv, H8, z1, x, z2, z3, z4⟩ := e25 F 5 4 0 _ [] [.int .i64 3, .str [40, 41], .nilp, .nilp, .int .i64 0, .str [], .nils, .nils, .nilp, .nils] ⟨[], 0, 0⟩ (.atom 3 emptyT) st0 ⟨_, _, _, _, _, _, _, _, rfl, by decide, by decide, ⟨by decide, fun h => by cases h⟩, ⟨rfl, rfl, rfl, rfl⟩, ⟨rfl, rfl, rfl, rfl⟩⟩
  have hcv : cv.flat = true := by obtain ⟨_, _, rfl⟩ := z3; rfl
  obtain ⟨v0, v1, v2, v3, v5, v6⟩ := runH_rows (F := F) (row := [.int .i64 k, .str t, vStrs ns, vXs l]) n0
  have w0 := z4.get _ _ v0 (quiet (by decide) (by decide))
  have w1 := z4.get _ _ v1 (quiet (by decide) (by decide))
  have w2 := z4.get _ _ v2 (quiet (by decide) (by decide))
  have w3 := z4.get _ _ v3 (quiet (by decide) (by decide))
  have w5 := z4.get _ _ v5 (quiet (by decide) (by decide))
  have w6 := z4.get _ _ v6 (quiet (by decide) (by decide))
  simp only [List.nil_append] at z2 z3
  have st9 := z2.push (ob := .row [.str inputT, cv, .nilp] 0 false (some 80))
  have k9 : Keep H8 (H8.push (.row [.str inputT, cv, .nilp] 0 false (some 80))) := HKeep.push z2.low
  have env9 : EnvR (H8.push (.row [.str inputT, cv, .nilp] 0 false (some 80))) x [(inputT, 0)] (.ptr (.new H8.n) 0) := .cons (by rw [h_get, if_pos rfl]) z3 .nil
  simp only [X.v_mk] at eE
  obtain ⟨n, rfl⟩ : ∃ k, n = k + 1 := ⟨n - 1, by omega⟩
  have hm1 : IntKind.i64.wrap (((0 : Nat) : Int) - 1) = -1 := by decide
  have hge : ((-1 : Int) ≥ 0) = False := by simp
  simp only [runH] at z1
  unfold gEvalN
  simp -implicitDefEqProofs only [X.v_mk, XS, ↓v_lenS, ZZ, Nat.reduceBEq, reduceIte, Nat.reduceAdd, Nat.reduceLeDiff, Nat.reduceEqDiff, Nat.reduceBneDiff, mapHM_cons, mapHM_nil, opened_res, runE, stepE, c14a, c14b, c14c, c14d, c12_l0, scL, scR, c12, CL, z1, n0, loop_succ, hm1, hge, decide_false]
  have key : ∀ fr : Fr, fr 3 = .ptr (.new 0) 0 → fr 6 = .ptr (.new 1) 0 → fr 7 = .ptr (.new 2) 0 → fr 8 = .ptr (.new 3) 0 → fr 9 = .ptr (.new 6) 0 → fr 10 = cv → opened H (noPanic (noPanic (tailE (callN P5 (n + 1)) (n + 1) fr H8))) = some (.ret (resV (resO o)), H) := by
    intro fr r3 r6 r7 r8 r9 r10
    obtain ⟨G, hG⟩ := tail_run hh eE eP r3 r6 r7 r8 r9 r10 z2 z3 w0 w1 w2 w3 w5 w6
    rw [hG, noPanic_ret, noPanic_ret, opened_res]
  refine key _ ?_ ?_ ?_ ?_ ?_ ?_ <;> simp -implicitDefEqProofs only [↓v_lenS, ZZ, Nat.reduceBEq, reduceIte, Nat.reduceAdd, Nat.reduceLeDiff, Nat.reduceEqDiff, Nat.reduceBneDiff]
end Go.Lite
