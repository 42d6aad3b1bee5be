/-
  Several texts in one: AEq, TApply, TEvA, TView, TEvB, TEvC, TEvD.
-/
import Derived.Test.YtmfdlglhngmacaaGreatDoorUL

set_option linter.unusedSimpArgs false
set_option linter.unusedVariables false
set_option linter.defProp false
set_option maxRecDepth 100000

/-
  The machine's steps, one at a time.
-/
namespace Go.Lite
noncomputable section
abbrev EvalT := X → Env → S → Option (O V)
abbrev ForceT := Nat → S → Option (O V)
abbrev ApplyT := V → List Nat → S → Option (O V)
def prim2F (E : EvalT) (t : Str) (a b : X) (env : Env) (s : S) : Option (O V) :=
  if t = consP then some (.val (.pair (argA a env s).1 (argA b env (argA a env s).2).1) (argA b env (argA a env s).2).2)
  else (E a env s).bind fun r => r.bind fun v s =>
    if t = seqT then E b env s
    else if t = eqP then (E b env s).bind fun r => r.bind fun w s => some (.val (truthV (decide (v.kind < 5) && (v.kind == w.kind && v.text == w.text))) s)
    else if v.kind ≠ 1 then some (.stop 2 [110, 117, 109, 98, 101, 114] s)
    else (E b env s).bind fun r => r.bind fun w s => if w.kind ≠ 1 then some (.stop 2 [110, 117, 109, 98, 101, 114] s) else some (numsA t v.text w.text s)
def prim1F (Fo : ForceT) (t : Str) (v : V) (s : S) : Option (O V) :=
  if t = carT ∨ t = cdrT then match v with
    | .pair p q => Fo (if t = carT then p else q) s
    | _ => some (.stop 2 [112, 97, 105, 114] s)
  else if t = nullT then some (.val (truthV (v.kind == 3)) s)
  else if t = pairT then some (.val (truthV (v.kind == 5)) s)
  else if t = integerT then some (.val (truthV (v.kind == 1)) s)
  else if t = symbolT then some (.val (truthV (v.kind == 4)) s)
  else if t = notT then some (.val (truthV v.isFalse) s)
  else some (.stop 2 (if v.kind < 5 then errorT ++ 32 :: v.text else errorT) s)
def evalF (E : EvalT) (Fo : ForceT) (Ap : ApplyT) (k : Int) (t : Str) (ns : List Str) (l : List X) (env : Env) (s : S) : Option (O V) :=
  if k = 5 then Fo (lookA env t s).1 (lookA env t s).2
  else if k = 6 then some (.val (.fn (.mk k t ns l) env []) s)
  else if k = 7 then match l with
    | [] => none
    | f :: la => (E f env s).bind fun r => r.bind fun v s => Ap v (argsA env la s).1 (argsA env la s).2
  else if k = 8 then match l with
    | [c, a, b] => (E c env s).bind fun r => r.bind fun v s => E (if v.isFalse then b else a) env s
    | _ => none
  else if k = 9 then match l[ns.length]? with
    | some b => E b (letEnv ns s.cells.length env) (s.more ((l.take ns.length).map fun e => C.wait e (letEnv ns s.cells.length env)))
    | none => none
  else if k = 10 then match l with
    | [a, b] => prim2F E t a b env s
    | [a] => (E a env s).bind fun r => r.bind fun v s => prim1F Fo t v s
    | _ => none
  else some (.val (constV k t) s)
theorem evalA_s (fuel n : Nat) (k : Int) (t : Str) (ns : List Str) (l : List X) (env : Env) (s : S) : evalA fuel (n + 1) (.mk k t ns l) env s =
    if s.tick.steps > fuel then some (.stop 6 [] s.tick) else evalF (evalA fuel n) (forceA fuel n) (applyA fuel n) k t ns l env s.tick := by
  rw [evalA.eq_def]; rfl
def applyF (E : EvalT) (Ap : ApplyT) (v : V) (l : List Nat) (s : S) : Option (O V) :=
  if l = [] then some (.val v s) else match v with
    | .fn (.mk k t ns a) env g =>
      if l.length < ns.length - g.length then some (.val (.fn (.mk k t ns a) env (g ++ l)) s)
      else match a with
        | [] => none
        | b :: _ => (E b ((ns.zip (g ++ l.take (ns.length - g.length))).reverse ++ env) s).bind fun r => r.bind fun v s => Ap v (l.drop (ns.length - g.length)) s
    | _ => some (.stop 2 [97, 112, 112, 108, 121] s)
theorem applyA_s (fuel n : Nat) (v : V) (l : List Nat) (s : S) : applyA fuel (n + 1) v l s = applyF (evalA fuel n) (applyA fuel n) v l s := by
  rw [applyA.eq_def]; rfl
theorem printA_s (fuel n : Nat) (out : Str) (v : V) (s : S) : printA fuel (n + 1) out v s = match v with
    | .atom _ t => some (sayA out t s)
    | .fn _ _ _ => some (sayA out [35, 60, 102, 117, 110, 99, 116, 105, 111, 110, 62] s)
    | .pair a b => (sayA out [40] s).bind fun out s => rowA fuel n out a b s := by
  rw [printA.eq_def]; cases v <;> rfl
end
end Go.Lite

/-
  A value is applied to cells.
-/
namespace Go.Lite
open Go Go.Proofs
theorem loop_roundsP {call : CallF} {n : Nat} {c : SCode} {KK : Ex → Fr → Heap → R} {P : R → Prop} (N : Nat) (I : Nat → Fr → Heap → Prop)
    (hbody : ∀ i fr H (K' : Ex → Fr → Heap → R), i < N → I i fr H → (∀ t, K' (.exit t) = KK (.exit t)) → K' .ret = KK .ret → (∀ fr' H', I (i + 1) fr' H' → P (K' .normal fr' H')) → P (c.run call n fr H K'))
    (hlast : ∀ fr H (K' : Ex → Fr → Heap → R), I N fr H → (∀ t, K' (.exit t) = KK (.exit t)) → K' .ret = KK .ret → P (c.run call n fr H K')) :
    ∀ (m i : Nat) (fr : Fr) (H : Heap), i ≤ N → N < m + i → I i fr H → P (loopR call n c m fr H KK)
  | 0, i, fr, H, hi, hm, _ => by omega
  | m + 1, i, fr, H, hi, hm, h => by
    rw [loop_succ]
    by_cases hlt : i < N
    · refine hbody i fr H _ hlt h (fun t => by funext fr H; exact k_loopE) (by funext fr H; exact k_loopR) fun fr' H' h' => ?_
      rw [k_loopN]
      exact loop_roundsP N I hbody hlast m (i + 1) fr' H' (by omega) (by omega) h'
    · obtain rfl : i = N := by omega
      exact hlast fr H _ h (fun t => by funext fr H; exact k_loopE) (by funext fr H; exact k_loopR)
theorem LisR.at {H : Heap} {bs l : List Nat} {v : AV} (h : LisR H bs l v) {i j : Nat} (hi : l[i]? = some j) : ∃ b q cells c, iaddrV 1 v i = some (.ptr (.new b) q) ∧ H.t.get b = some (.row cells 1 false (some 70)) ∧ cells[q]? = some c ∧ PC bs j c := by
  rcases h with ⟨rfl, _⟩ | ⟨k, o, cells, h1, rfl, h2, h3⟩
  · simp at hi
  · obtain ⟨c, hc, hp⟩ := h3.get hi
    have hlt : i < l.length := (List.getElem?_eq_some_iff.1 hi).1
    refine ⟨k, o + i * 1, cells, c, by rw [iaddr_slice, if_pos hlt], h2, ?_, hp⟩
    rw [List.getElem?_take, if_pos hlt, List.getElem?_drop] at hc
    rw [Nat.mul_one]; exact hc
theorem LisR.pre {H : Heap} {bs l : List Nat} {v : AV} (h : LisR H bs l v) (hl : l ≠ []) {k : Nat} (hk : k ≤ l.length) : ∃ u cs, sliceOf 1 v none (some k) none = some u ∧ (∀ H', Stay H H' → Lite.taken 1 H' u = some (k, cs)) ∧ PCs bs (l.take k) cs := by
  rcases h with ⟨rfl, _⟩ | ⟨j, o, cells, h1, rfl, h2, h3⟩
  · exact absurd rfl hl
  · have hlen := h3.len
    refine ⟨.slice (.new j) o k (.gro 1), ((cells.drop o).take l.length).take k, ?_, fun H' st => ?_, h3.take k⟩
    · simp only [sliceOf, capOf, Option.getD_none, Option.getD_some]
      rw [if_pos (by omega)]
      simp
    · have h2' := st _ _ _ _ _ h2 (.inr rfl)
      simp only [k_taken, h_ldn, h_cells, h2', k_cells, k_ldn, Nat.mul_one]
      rw [List.length_take] at hlen
      rw [List.take_take, Nat.min_eq_left hk, if_pos (by rw [List.length_take]; omega)]; rfl
theorem LisR.rest {H : Heap} {bs l : List Nat} {v : AV} (h : LisR H bs l v) (hl : l ≠ []) {k : Nat} (hk : k ≤ l.length) : ∃ u, sliceOf 1 v (some k) none none = some u ∧ u.flat = true ∧ LisR H bs (l.drop k) u := by
  rcases h with ⟨rfl, _⟩ | ⟨j, o, cells, h1, rfl, h2, h3⟩
  · exact absurd rfl hl
  · simp only [sliceOf, capOf, Option.getD_none, Option.getD_some]
    rw [if_pos (by omega)]
    by_cases hc : k = 0 ∨ k < l.length
    · rw [if_pos hc]
      simp only [if_true]
      have hne : l.drop k ≠ [] := by
        intro e
        have := congrArg List.length e
        have := List.length_pos_iff.2 hl
        simp at *; omega
      refine ⟨_, rfl, rfl, .inr ⟨j, o + k * 1, cells, hne, by rw [List.length_drop], h2, ?_⟩⟩
      have h5 := h3.drop k
      rw [List.drop_take, List.drop_drop] at h5
      rw [Nat.mul_one, List.length_drop]; exact h5
    · rw [if_neg hc]
      have : l.drop k = [] := List.drop_eq_nil_of_le (by omega)
      exact ⟨_, rfl, rfl, .inl ⟨this, .inr rfl⟩⟩
theorem LisR.acc {N : Nat} {H : Heap} {bs l : List Nat} {cells : List AV} {v : AV} (h : Acc N H 70 1 l.length cells v) (hp : PCs bs l cells) : LisR H bs l v := by
  rcases h with ⟨h1, rfl, rfl⟩ | ⟨h1, h2, k, rfl, h3, h4⟩
  · exact .inl ⟨List.eq_nil_of_length_eq_zero h1, .inl rfl⟩
  · refine .inr ⟨k, 0, cells, fun e => h1 (by rw [e]; rfl), rfl, h4, ?_⟩
    rw [List.drop_zero, List.take_of_length_le (by omega)]; exact hp
theorem env_loop {P : R → Prop} {F kw kc n : Nat} {bs : List Nat} {s : S} {ns : List Str} {gl : List Nat} {env : Env} {v2 ev : AV} {KK : Ex → Fr → Heap → R} {fr : Fr} {H : Heap} (hns : ns.length ≤ 1000) (hgl : gl.length = ns.length) (hn : ns.length < n)
    (st : St F kw kc H bs s 0) (he : EnvR H bs env ev) (lis : LisR H bs gl v2) (r8 : fr 8 = v2) (r9 : fr 9 = ev) (r51 : fr 51 = vStrs ns) (r52 : fr 52 = .int .i64 ns.length) (r53 : fr 53 = .int .i64 (0 : Nat))
    (hend : ∀ fr' H' ev', EnvR H' bs ((ns.zip gl).reverse ++ env) ev' → St F kw kc H' bs s 0 → Keep H H' → fr' 9 = ev' → fr' 0 = fr 0 → fr' 2 = fr 2 → fr' 4 = fr 4 → fr' 6 = fr 6 → P (KK (.exit 2) fr' H')) : P (loopR (callN P5 n) n c50_l0 n fr H KK) := by
  have low := st.low
  refine loop_roundsP ns.length (fun i fr' H' => ∃ ev', EnvR H' bs (((ns.zip gl).take i).reverse ++ env) ev' ∧ St F kw kc H' bs s 0 ∧ Keep H H' ∧ fr' 8 = v2 ∧ fr' 9 = ev' ∧ fr' 51 = vStrs ns ∧ fr' 52 = .int .i64 ns.length ∧ fr' 53 = .int .i64 i ∧ fr' 0 = fr 0 ∧ fr' 2 = fr 2 ∧ fr' 4 = fr 4 ∧ fr' 6 = fr 6) ?_ ?_ n 0 fr H (Nat.zero_le _) hn ⟨ev, by simpa using he, st, HKeep.refl, r8, r9, r51, r52, r53, rfl, rfl, rfl, rfl⟩
  · rintro i fr' H' K' hi ⟨ev', he', st', kp, q8, q9, q51, q52, q53, q0, q2, q4, q6⟩ hKe hKr hK
    have hlt : (i : Int) < (ns.length : Int) := by omega
    have hw : IntKind.i64.wrap ((i : Int) + 1) = ((i + 1 : Nat) : Int) := wrap_succ (n := 1000) (by omega) (by omega)
    obtain ⟨nm, hnm⟩ : ∃ nm, ns[i]? = some nm := ⟨ns[i], List.getElem?_eq_getElem hi⟩
    obtain ⟨j, hj⟩ : ∃ j, gl[i]? = some j := ⟨gl[i]'(by omega), List.getElem?_eq_getElem (by omega)⟩
    obtain ⟨b, q, cells, c, a1, a2, a3, a4⟩ := LisR.at (bs := bs) (H := H') (by simpa using lis.keep (x := []) kp.stay) hj
    have fe := he'.flat
    have fc : c.flat = true := by obtain ⟨_, _, rfl⟩ := a4; rfl
    simp -implicitDefEqProofs only [c50_l0, ↓v_lenS, ZZ, Nat.reduceBEq, reduceIte, Nat.reduceAdd, Nat.reduceLeDiff, Nat.reduceEqDiff, Nat.reduceBneDiff, CL, XS, q8, q9, q51, q52, q53, hlt, iaddr_vStrs hnm, a1, a2, a3, hw, fe, fc]
    have hzip : (ns.zip gl)[i]? = some (nm, j) := by rw [List.getElem?_zip_eq_some]; exact ⟨hnm, hj⟩
    have htake : (ns.zip gl).take (i + 1) = (ns.zip gl).take i ++ [(nm, j)] := by rw [List.take_add_one, hzip]; rfl
    have k1 : Keep H' (H'.push (.row [.str nm, c, ev'] 0 false (some 80))) := HKeep.push st'.low
    refine hK _ _ ⟨.ptr (.new H'.n) 0, ?_, st'.push, kp.trans k1, ?_, ?_, ?_, ?_, ?_, ?_, ?_, ?_, ?_⟩
    · rw [htake, List.reverse_append, List.append_assoc]
      exact .cons (by rw [h_get, if_pos rfl]) a4 (by simpa using he'.keep (x := []) k1.stay)
    all_goals simp -implicitDefEqProofs only [↓v_lenS, ZZ, Nat.reduceBEq, reduceIte, Nat.reduceAdd, Nat.reduceLeDiff, Nat.reduceEqDiff, Nat.reduceBneDiff, q8, q9, q51, q52, q53, q0, q2, q4, q6]
  · rintro fr' H' K' ⟨ev', he', st', kp, q8, q9, q51, q52, q53, q0, q2, q4, q6⟩ hKe hKr
    have hlt : ¬ (ns.length : Int) < (ns.length : Int) := by omega
    have htk : (ns.zip gl).take ns.length = ns.zip gl := List.take_of_length_le (by rw [List.length_zip]; omega)
    rw [htk] at he'
    simp -implicitDefEqProofs only [c50_l0, ↓v_lenS, ZZ, Nat.reduceBEq, reduceIte, Nat.reduceAdd, Nat.reduceLeDiff, Nat.reduceEqDiff, Nat.reduceBneDiff, CL, XS, q8, q9, q51, q52, q53, hlt, hKe]
    refine hend _ _ ev' he' st' kp ?_ ?_ ?_ ?_ ?_ <;> simp -implicitDefEqProofs only [↓v_lenS, ZZ, Nat.reduceBEq, reduceIte, Nat.reduceAdd, Nat.reduceLeDiff, Nat.reduceEqDiff, Nat.reduceBneDiff, q8, q9, q51, q52, q53, q0, q2, q4, q6]
def AppLoop (F : Nat) (v : V) (l : List Nat) (s : S) (o : O V) (m n : Nat) : Prop := ∀ kw kc H0 H bs cs lv k4 k6 fr mm KK, St F kw kc H bs s 0 → ValR H bs v cs → LisR H bs l lv → Keep H0 H → HLow H0 → H0.n ≤ k4 → H0.n ≤ k6 → ¬ k4 = k6 →
  fr 0 = .ptr (.new kw) 0 → fr 2 = lv → fr 4 = .ptr (.new k4) 0 → fr 6 = .ptr (.new k6) 0 → H.t.get k4 = some (.row cs 0 false (some 75)) → H.t.get k6 = some (.row [AV.int .i64 0, .str [], .nilp, .nilp, .int .i64 0, .str [], .nils, .nils, .nilp, .nils] 0 false (some 75)) → m ≤ mm →
  (∀ fr' H' (k : Int) t c2 c3 c4 c5 c6 c7 c8 c9, fr' 4 = .ptr (.new k4) 0 → fr' 6 = .ptr (.new k6) 0 → H'.t.get k4 = some (.row [.int .i64 k, .str t, c2, c3, c4, c5, c6, c7, c8, c9] 0 false (some 75)) → H'.t.get k6 = some (.row [AV.int .i64 0, .str [], .nilp, .nilp, .int .i64 0, .str [], .nils, .nils, .nilp, .nils] 0 false (some 75)) → (c2.flat = true ∧ c3.flat = true ∧ c4.flat = true ∧ c5.flat = true) → (c6.flat = true ∧ c7.flat = true ∧ c8.flat = true ∧ c9.flat = true) →
    KK (.exit 0) fr' H' = some (.ret (.agg [.int .i64 k, .str t, c2, c3, c4, c5, c6, c7, c8, c9]), H'.put k6 (.row [.int .i64 k, .str t, c2, c3, c4, c5, c6, c7, c8, c9] 0 false (some 75)))) →
  (∀ fr' H' cs, fr' 6 = .ptr (.new k6) 0 → H'.t.get k6 = some (.row cs 0 false (some 75)) → cs.length = 10 → KK .ret fr' H' = some (.ret (.agg cs), H')) →
  GiveV F kw kc H0 bs (loopR (callN P5 n) n c50_l1 mm fr H KK) o
set_option maxHeartbeats 8000000 in
theorem app_loop {F : Nat} : ∀ m, (∀ k, k < m → EvalOk F k) → ∀ v l s o, applyA F m v l s = some o → Ev (AppLoop F v l s o m)
  | 0, _, v, l, s, o, h => by simp [applyA] at h
  | m + 1, ih, v, l, s, o, h => by
    rw [applyA_s] at h
    unfold applyF at h
    by_cases hl : l = []
    · rw [if_pos hl] at h
      obtain rfl := Option.some.inj h
      subst hl
      refine Ev.of fun n kw kc H0 H bs cs lv k4 k6 fr mm KK st hv hlis kp low0 h4 h6 h46 r0 r2 r4 r6 g4 g6 hm hK0 hK1 => ?_
      obtain ⟨mm, rfl⟩ : ∃ k, mm = k + 1 := ⟨mm - 1, by omega⟩
      obtain ⟨t, c2, c3, c4, c5, c6, c7, c8, c9, rfl, _, _, _, f1, f2⟩ := hv.ten
      have hlen := hlis.len
      have hgt : ¬ ((0 : Nat) : Int) > 0 := by omega
      simp only [List.length_nil] at hlen
      rw [loop_succ]
      have hfin := fun fr' a b => hK0 fr' H v.kind t c2 c3 c4 c5 c6 c7 c8 c9 a b g4 g6 f1 f2
      simp -implicitDefEqProofs only [c50_l1, ↓v_lenS, ZZ, Nat.reduceBEq, reduceIte, Nat.reduceAdd, Nat.reduceLeDiff, Nat.reduceEqDiff, Nat.reduceBneDiff, CL, r0, r2, r4, r6, hlen, hgt]
      rw [hfin _ (by simp -implicitDefEqProofs only [↓v_lenS, ZZ, Nat.reduceBEq, reduceIte, Nat.reduceAdd, Nat.reduceLeDiff, Nat.reduceEqDiff, Nat.reduceBneDiff, r4]) (by simp -implicitDefEqProofs only [↓v_lenS, ZZ, Nat.reduceBEq, reduceIte, Nat.reduceAdd, Nat.reduceLeDiff, Nat.reduceEqDiff, Nat.reduceBneDiff, r6])]
      have k1 := kp.own low0 h6 (st.low.lt g6) (ob := .row [.int .i64 v.kind, .str t, c2, c3, c4, c5, c6, c7, c8, c9] 0 false (some 75))
      refine give_here (st.box g6 (by decide)) ?_ k1
      simpa using hv.keep (x := []) (Stay.put g6 (by decide) (by decide) (by decide))
    rw [if_neg hl] at h
    have hlpos : 0 < l.length := List.length_pos_iff.2 hl
    rcases Classical.em (∃ e env g, v = .fn e env g) with hfn | hfn
    case inr =>
      have ho : o = .stop 2 [97, 112, 112, 108, 121] s := by
        cases v with
        | fn e env g => exact absurd ⟨_, _, _, rfl⟩ hfn
        | atom k t => exact (Option.some.inj h).symm
        | pair a b => exact (Option.some.inj h).symm
      subst ho
      refine stop61.mono fun n e61 kw kc H0 H bs cs lv k4 k6 fr mm KK st hv hlis kp low0 h4 h6 h46 r0 r2 r4 r6 g4 g6 hm hK0 hK1 => ?_
      obtain ⟨mm, rfl⟩ : ∃ k, mm = k + 1 := ⟨mm - 1, by omega⟩
      have hb : (v.kind != 6) = true := by
        cases v with
        | fn e env g => exact absurd ⟨_, _, _, rfl⟩ hfn
        | atom k t =>
          obtain ⟨_, _, _, _, _, _, _, _, _, _, hk, _⟩ := hv
          simp only [V.kind, bne_iff_ne, ne_eq]; omega
        | pair a b => rfl
      obtain ⟨t, c2, c3, c4, c5, c6, c7, c8, c9, rfl, _, _, _, ⟨f2, f3, f4, f5⟩, ⟨f6, f7, f8, f9⟩⟩ := hv.ten
      have hlen := hlis.len
      have hgt : ((l.length : Nat) : Int) > 0 := by omega
      rw [loop_succ]
      simp -implicitDefEqProofs only [c50_l1, ↓v_lenS, ZZ, Nat.reduceBEq, reduceIte, Nat.reduceAdd, Nat.reduceLeDiff, Nat.reduceEqDiff, Nat.reduceBneDiff, CL, r0, r2, r4, r6, hlen, hgt, g4, hb, e61]
      exact ⟨H, rfl, st.ends, kp⟩
    obtain ⟨e, env, g, rfl⟩ := hfn
    obtain ⟨k, t, ns, a⟩ := e
    simp only [] at h
    by_cases hpart : l.length < ns.length - g.length
    · rw [if_pos hpart] at h
      obtain rfl := Option.some.inj h
      refine Ev.of fun n kw kc H0 H bs cs lv k4 k6 fr mm KK st hv hlis kp low0 h4 h6 h46 r0 r2 r4 r6 g4 g6 hm hK0 hK1 => ?_
      obtain ⟨mm, rfl⟩ : ∃ k, mm = k + 1 := ⟨mm - 1, by omega⟩
      obtain ⟨c8, c9, rfl, ht, he, hg, hgl⟩ := hv
      have ht' := ht
      rw [X.tame] at ht'
      obtain ⟨_, hns, _, _⟩ := ht'
      have hlen := hlis.len
      have hglen := hg.len
      have hgt : ((l.length : Nat) : Int) > 0 := by omega
      have hw : IntKind.i64.wrap ((ns.length : Int) - (g.length : Int)) = ((ns.length - g.length : Nat) : Int) := by
        rw [wrap64 (by omega) (by omega)]; omega
      have hmin : (if (l.length : Int) < ((ns.length - g.length : Nat) : Int) then (l.length : Int) else ((ns.length - g.length : Nat) : Int)) = (l.length : Int) := by rw [if_pos (by omega)]
      have hlt : (l.length : Int) < ((ns.length - g.length : Nat) : Int) := by omega
      obtain ⟨gcs, htk, hgp⟩ := hg.taken
      obtain ⟨u, lcs, hsl, htku, hlp⟩ := hlis.pre hl (Nat.le_refl _)
      rw [List.take_length] at hlp
      have h64 : ¬ k6 = k4 := fun e => h46 e.symm
      have acc0 := Acc.nil (N := H.n) (H := H) (e := 70) (es := 1)
      obtain ⟨v1, H1, happ1, acc1, kb1, low1⟩ := acc0.more (bs := 8) (m := g.length) (ys := gcs) (Nat.le_refl _) st.low (by decide) (by rw [hgp.len, Nat.mul_one]) hgp.flat (by omega)
      have kp1 : Keep H H1 := acc0.keeps (HKeep.refl (X := loud)) st.low kb1
      obtain ⟨v2, H2, happ2, acc2, kb2, low2⟩ := acc1.more (bs := 8) (m := l.length) (ys := lcs) (kp1.n) low1 (by decide) (by rw [hlp.len, Nat.mul_one]) hlp.flat (by omega)
      have kp2 : Keep H H2 := acc1.keeps kp1 st.low kb2
      have htku1 := htku H1 kp1.stay
      simp only [Nat.zero_add, List.nil_append] at acc2
      have fv2 := acc2.flat
      have g42 := kp2.get _ _ g4 (quiet (by decide) (by decide))
      have g62 := kp2.get _ _ g6 (quiet (by decide) (by decide))
      have f8 := he.flat
      rw [loop_succ]
      simp -implicitDefEqProofs only [c50_l1, ↓v_lenS, ZZ, Nat.reduceBEq, reduceIte, Nat.reduceAdd, Nat.reduceLeDiff, Nat.reduceEqDiff, Nat.reduceBneDiff, CL, XS, r0, r2, r4, r6, hlen, hglen, hgt, g4, hw, hmin, hlt, hsl, htk, happ1, htku1, happ2, g42, g62, fv2, f8, h46, h64, Int.reduceBNe, V.kind]
      rw [hK1 _ _ _ (by simp -implicitDefEqProofs only [↓v_lenS, ZZ, Nat.reduceBEq, reduceIte, Nat.reduceAdd, Nat.reduceLeDiff, Nat.reduceEqDiff, Nat.reduceBneDiff, r6]) (by rw [h_gput, if_pos rfl]) rfl]
      have k42 := (kp.trans kp2).own low0 h4 (low2.lt g42) (ob := .row [.int .i64 6, .str [], .nilp, .nilp, .int .i64 k, .str t, vStrs ns, vXs a, c8, v2] 0 false (some 75))
      have k62 := k42.own low0 h6 (by show k6 < H2.n; exact low2.lt g62) (ob := .row [.int .i64 6, .str [], .nilp, .nilp, .int .i64 k, .str t, vStrs ns, vXs a, c8, v2] 0 false (some 75))
      have sA : St F kw kc H2 bs s 0 := st.keep low2 kp2.stay fun j cs t hj _ => acc1.row (by decide) kb2 (acc0.row (by decide) kb1 hj)
      have g6' := put_ne (ob := .row [.int .i64 6, .str [], .nilp, .nilp, .int .i64 k, .str t, vStrs ns, vXs a, c8, v2] 0 false (some 75)) h64 g62
      have sB := (sA.box g42 (by decide) (ob := .row [.int .i64 6, .str [], .nilp, .nilp, .int .i64 k, .str t, vStrs ns, vXs a, c8, v2] 0 false (some 75))).box g6' (by decide) (ob := .row [.int .i64 6, .str [], .nilp, .nilp, .int .i64 k, .str t, vStrs ns, vXs a, c8, v2] 0 false (some 75))
      have stay : Stay H ((H2.put k4 (.row [.int .i64 6, .str [], .nilp, .nilp, .int .i64 k, .str t, vStrs ns, vXs a, c8, v2] 0 false (some 75))).put k6 (.row [.int .i64 6, .str [], .nilp, .nilp, .int .i64 k, .str t, vStrs ns, vXs a, c8, v2] 0 false (some 75))) :=
        kp2.stay.trans ((Stay.put g42 (by decide) (by decide) (by decide)).trans (Stay.put g6' (by decide) (by decide) (by decide)))
      refine give_here sB ⟨c8, v2, rfl, ht, by simpa using he.keep (x := []) stay, ?_, by rw [List.length_append]; omega⟩ k62
      refine LisR.acc (N := H.n) (cells := gcs ++ lcs) ?_ (hgp.append hlp)
      rw [List.length_append]
      exact (acc2.put (by decide) g42).put (by decide) g6'
    rw [if_neg hpart] at h
    cases a with
    | nil => simp at h
    | cons b a' =>
      simp only [] at h
      obtain ⟨p, hp, h⟩ := Option.bind_eq_some_iff.1 h
      have hE : Ev fun n => b.tame → ∀ kw kc H bs ev, St F kw kc H bs s 1 → EnvR H bs ((ns.zip (g ++ l.take (ns.length - g.length))).reverse ++ env) ev → GiveV F kw kc H bs (callN P5 n 27 [.ptr (.new kw) 0, b.v, ev] H) p := by
        by_cases htb : b.tame
        · exact (ih m (Nat.lt_succ_self m) b _ s p htb hp).mono fun n hn _ => hn
        · exact Ev.of fun n h' => absurd h' htb
      have hN : Ev fun n => ∀ v' s', p = .val v' s' → ∀ o', applyA F m v' (l.drop (ns.length - g.length)) s' = some o' → AppLoop F v' (l.drop (ns.length - g.length)) s' o' m n :=
        Ev.val fun v' s' _ => Ev.opt fun o' ho' => app_loop m (fun k hk => ih k (by omega)) v' _ s' o' ho'
      refine (hE.and (hN.and (Ev.ge 1002))).mono fun n hn kw kc H0 H bs cs lv k4 k6 fr mm KK st hv hlis kp low0 h4 h6 h46 r0 r2 r4 r6 g4 g6 hm hK0 hK1 => ?_
      obtain ⟨eE, eN, hn⟩ := hn
      obtain ⟨mm, rfl⟩ : ∃ k, mm = k + 1 := ⟨mm - 1, by omega⟩
      obtain ⟨c8, c9, rfl, ht, he, hg, hgl⟩ := hv
      have ht' := ht
      rw [X.tame] at ht'
      obtain ⟨_, hns, _, htb, _⟩ := ht'
      have hlen := hlis.len
      have hglen := hg.len
      have h64 : ¬ k6 = k4 := fun e => h46 e.symm
      have hgt : ((l.length : Nat) : Int) > 0 := by omega
      have hw : IntKind.i64.wrap ((ns.length : Int) - (g.length : Int)) = ((ns.length - g.length : Nat) : Int) := by
        rw [wrap64 (by omega) (by omega)]; omega
      have hmin : (if (l.length : Int) < ((ns.length - g.length : Nat) : Int) then (l.length : Int) else ((ns.length - g.length : Nat) : Int)) = ((ns.length - g.length : Nat) : Int) := by rw [if_neg (by omega)]
      have hlt : ¬ (l.length : Int) < ((ns.length - g.length : Nat) : Int) := by omega
      obtain ⟨gcs, htk, hgp⟩ := hg.taken
      obtain ⟨u, lcs, hsl, htku, hlp⟩ := hlis.pre hl (k := ns.length - g.length) (by omega)
      obtain ⟨w, hsw, fw, hlw⟩ := hlis.rest hl (k := ns.length - g.length) (by omega)
      have acc0 := Acc.nil (N := H.n) (H := H) (e := 70) (es := 1)
      obtain ⟨v1, H1, happ1, acc1, kb1, low1⟩ := acc0.more (bs := 8) (m := g.length) (ys := gcs) (Nat.le_refl _) st.low (by decide) (by rw [hgp.len, Nat.mul_one]) hgp.flat (by omega)
      have kp1 : Keep H H1 := acc0.keeps (HKeep.refl (X := loud)) st.low kb1
      have hll : (l.take (ns.length - g.length)).length = ns.length - g.length := by rw [List.length_take]; omega
      obtain ⟨v2, H2, happ2, acc2, kb2, low2⟩ := acc1.more (bs := 8) (m := ns.length - g.length) (ys := lcs) (kp1.n) low1 (by decide) (by rw [hlp.len, hll, Nat.mul_one]) hlp.flat (by omega)
      have kp2 : Keep H H2 := acc1.keeps kp1 st.low kb2
      have htku1 := htku H1 kp1.stay
      simp only [Nat.zero_add, List.nil_append] at acc2
      have fv2 := acc2.flat
      have g42 := kp2.get _ _ g4 (quiet (by decide) (by decide))
      have g62 := kp2.get _ _ g6 (quiet (by decide) (by decide))
      have f8 := he.flat
      have sA : St F kw kc H2 bs s 0 := st.keep low2 kp2.stay fun j cs t hj _ => acc1.row (by decide) kb2 (acc0.row (by decide) kb1 hj)
      have lis2 : LisR H2 bs (g ++ l.take (ns.length - g.length)) v2 := by
        refine LisR.acc (N := H.n) (cells := gcs ++ lcs) ?_ (hgp.append hlp)
        rw [List.length_append, hll]; exact acc2
      have hglen2 : (g ++ l.take (ns.length - g.length)).length = ns.length := by rw [List.length_append, hll]; omega
      rw [loop_succ]
      simp -implicitDefEqProofs only [c50_l1, ↓v_lenS, ZZ, Nat.reduceBEq, reduceIte, Nat.reduceAdd, Nat.reduceLeDiff, Nat.reduceEqDiff, Nat.reduceBneDiff, CL, XS, r0, r2, r4, r6, hlen, hglen, hgt, g4, hw, hmin, hlt, hsl, htk, happ1, htku1, happ2, g42, g62, fv2, f8, h46, h64, hsw, fw, Int.reduceBNe, V.kind]
      refine env_loop (s := s) (P := fun r => GiveV F kw kc H0 bs r o) hns hglen2 (by omega) sA (by simpa using he.keep (x := []) kp2.stay) lis2 (by simp -implicitDefEqProofs only [↓v_lenS, ZZ, Nat.reduceBEq, reduceIte, Nat.reduceAdd, Nat.reduceLeDiff, Nat.reduceEqDiff, Nat.reduceBneDiff]) (by simp -implicitDefEqProofs only [↓v_lenS, ZZ, Nat.reduceBEq, reduceIte, Nat.reduceAdd, Nat.reduceLeDiff, Nat.reduceEqDiff, Nat.reduceBneDiff]) (by simp -implicitDefEqProofs only [↓v_lenS, ZZ, Nat.reduceBEq, reduceIte, Nat.reduceAdd, Nat.reduceLeDiff, Nat.reduceEqDiff, Nat.reduceBneDiff]) (by simp -implicitDefEqProofs only [↓v_lenS, ZZ, Nat.reduceBEq, reduceIte, Nat.reduceAdd, Nat.reduceLeDiff, Nat.reduceEqDiff, Nat.reduceBneDiff]) (by simp -implicitDefEqProofs only [↓v_lenS, ZZ, Nat.reduceBEq, reduceIte, Nat.reduceAdd, Nat.reduceLeDiff, Nat.reduceEqDiff, Nat.reduceBneDiff]; rfl) ?_
      intro fr' H' ev' he' st' kp' q9 q0 q2 q4 q6
      simp -implicitDefEqProofs only [↓v_lenS, ZZ, Nat.reduceBEq, reduceIte, Nat.reduceAdd, Nat.reduceLeDiff, Nat.reduceEqDiff, Nat.reduceBneDiff, r0, r2, r4, r6] at q0 q2 q4 q6
      have g43 := kp'.get _ _ g42 (quiet (by decide) (by decide))
      have g63 := kp'.get _ _ g62 (quiet (by decide) (by decide))
      have hcall := eE htb kw kc H' bs ev' (st'.weak (by omega)) he'
      obtain ⟨kb, tb, nb, lb⟩ := b
      have ib : iaddrV 4 (vXs (.mk kb tb nb lb :: a')) 0 = some (.ptr (.val (X.mk kb tb nb lb).cells) 0) := iaddr_vXs rfl
      rw [X.v_mk] at hcall
      have kpA := (kp.trans kp2).trans kp'
      cases p with
      | stop kk tt s' =>
        obtain rfl := (Option.some.inj h).symm
        obtain ⟨H3, z1, z2, z3⟩ := hcall
        simp -implicitDefEqProofs only [↓v_lenS, ZZ, Nat.reduceBEq, reduceIte, Nat.reduceAdd, Nat.reduceLeDiff, Nat.reduceEqDiff, Nat.reduceBneDiff, CL, XS, Int.reduceLE, Int.reduceToNat, q9, q0, q2, q4, q6, g43, ib, X.cells_mk, z1]
        exact ⟨H3, rfl, z2, kpA.trans z3⟩
      | val v' s' =>
        have h : applyA F m v' (l.drop (ns.length - g.length)) s' = some o := h
        obtain ⟨cs', H3, x, z1, z2, z3, z4⟩ := hcall
        obtain ⟨tx, d2, d3, d4, d5, d6, d7, d8, d9, rfl, _, _, _, ⟨e2, e3, e4, e5⟩, ⟨e6, e7, e8, e9⟩⟩ := z2.ten
        have g44 := z4.get _ _ g43 (quiet (by decide) (by decide))
        have g64 := z4.get _ _ g63 (quiet (by decide) (by decide))
        simp -implicitDefEqProofs only [↓v_lenS, ZZ, Nat.reduceBEq, reduceIte, Nat.reduceAdd, Nat.reduceLeDiff, Nat.reduceEqDiff, Nat.reduceBneDiff, CL, XS, Int.reduceLE, Int.reduceToNat, q9, q0, q2, q4, q6, g43, ib, X.cells_mk, z1, g44, e2, e3, e4, e5, e6, e7, e8, e9]
        refine GiveV.more (x := x) (eN v' s' rfl o h kw kc H0 _ (bs ++ x) _ w k4 k6 _ mm KK (z3.box g44 (by decide)) ?_ ?_ ((kpA.trans z4).own low0 h4 (z3.low.lt g44)) low0 h4 h6 h46 ?_ ?_ ?_ ?_ (by rw [h_gput, if_pos rfl]) (put_ne h64 g64) (by omega) hK0 hK1)
        · simpa using z2.keep (x := []) (Stay.put g44 (by decide) (by decide) (by decide))
        · simpa using ((hlw.keep (x := []) ((kp2.trans kp').stay)).keep (x := x) z4.stay).keep (x := []) (Stay.put g44 (by decide) (by decide) (by decide))
        all_goals simp -implicitDefEqProofs only [↓v_lenS, ZZ, Nat.reduceBEq, reduceIte, Nat.reduceAdd, Nat.reduceLeDiff, Nat.reduceEqDiff, Nat.reduceBneDiff, q9, q0, q2, q4, q6]
end Go.Lite

/-
  A term's value: the simple kinds.
-/
namespace Go.Lite
open Go Go.Proofs
theorem EnvR.stay {H H' : Heap} {bs : List Nat} {env : Env} {v : AV} (h : EnvR H bs env v) (k : Stay H H') : EnvR H' bs env v := by
  have := h.keep (x := []) k
  rwa [List.append_nil] at this
theorem ValR.stay {H H' : Heap} {bs : List Nat} {v : V} {cs : List AV} (h : ValR H bs v cs) (k : Stay H H') : ValR H' bs v cs := by
  have := h.keep (x := []) k
  rwa [List.append_nil] at this
theorem LisR.stay {H H' : Heap} {bs : List Nat} {l : List Nat} {v : AV} (h : LisR H bs l v) (k : Stay H H') : LisR H' bs l v := by
  have := h.keep (x := []) k
  rwa [List.append_nil] at this
set_option maxHeartbeats 2000000 in
theorem apply43 {F m : Nat} (ih : ∀ k, k < m → EvalOk F k) : ApplyOk F m := by
  intro v l s o h
  refine Ev.succ (((app_loop m ih v l s o h).and (Ev.ge m)).mono fun n hn kw kc H bs cs lv st hv hl => ?_)
  obtain ⟨eL, hn⟩ := hn
  obtain ⟨t, c2, c3, c4, c5, c6, c7, c8, c9, rfl, _, _, _, ⟨f2, f3, f4, f5⟩, ⟨f6, f7, f8, f9⟩⟩ := hv.ten
  rw [callN_code (P := P5) (sf := c50) rfl (code50 _ _) rfl rfl]
  have fl := hl.flat
  have k2 : Keep H ((H.push (.row [.int .i64 v.kind, .str t, c2, c3, c4, c5, c6, c7, c8, c9] 0 false (some 75))).push (.row [AV.int .i64 0, .str [], .nilp, .nilp, .int .i64 0, .str [], .nils, .nils, .nilp, .nils] 0 false (some 75))) := (HKeep.push st.low).pushed st.low
  have st2 := (st.push (ob := .row [.int .i64 v.kind, .str t, c2, c3, c4, c5, c6, c7, c8, c9] 0 false (some 75))).push (ob := .row [AV.int .i64 0, .str [], .nilp, .nilp, .int .i64 0, .str [], .nils, .nils, .nilp, .nils] 0 false (some 75))
  simp -implicitDefEqProofs only [c50, ↓v_lenS, ZZ, Nat.reduceBEq, reduceIte, Nat.reduceAdd, Nat.reduceLeDiff, Nat.reduceEqDiff, Nat.reduceBneDiff, CL, f2, f3, f4, f5, f6, f7, f8, f9]
  refine eL kw kc H _ bs _ lv H.n (H.n + 1) _ n _ st2 (by simpa using hv.keep (x := []) k2.stay) (by simpa using hl.keep (x := []) k2.stay) k2 st.low (Nat.le_refl _) (by omega) (by omega) ?_ ?_ ?_ ?_ ?_ ?_ hn ?_ ?_
  · rfl
  · rfl
  · rfl
  · rfl
  · rw [h_get, if_neg (by rw [h_n]; omega), h_get, if_pos rfl]
  · rw [h_get, if_pos (by rw [h_n])]
  · intro fr' H' k t c2 c3 c4 c5 c6 c7 c8 c9 r4 r6 g4 g6 ⟨f2, f3, f4, f5⟩ ⟨f6, f7, f8, f9⟩
    simp -implicitDefEqProofs only [↓v_lenS, ZZ, Nat.reduceBEq, reduceIte, Nat.reduceAdd, Nat.reduceLeDiff, Nat.reduceEqDiff, Nat.reduceBneDiff, CL, r4, r6, g4, g6, f2, f3, f4, f5, f6, f7, f8, f9]
  · intro fr' H' cs r6 g6 hl
    simp -implicitDefEqProofs only [↓v_lenS, ZZ, Nat.reduceBEq, reduceIte, Nat.reduceAdd, Nat.reduceLeDiff, Nat.reduceEqDiff, Nat.reduceBneDiff, CL, r6, g6, hl, List.take_of_length_le (Nat.le_of_eq hl)]
def BodyOk (F : Nat) (k : Int) (t : Str) (ns : List Str) (l : List X) (env : Env) (s : S) (o : O V) (n : Nat) : Prop := ∀ kw kc H bs ev, St F kw kc H bs s 1 → EnvR H bs env ev → ¬ s.steps + 1 > F →
  GiveV F kw kc H bs (callN P5 n 27 [.ptr (.new kw) 0, .agg [.int .i64 k, .str t, vStrs ns, vXs l], ev] H) o
abbrev stepH (F kc : Nat) (H : Heap) (s : S) (row : List AV) : Heap := ((H.push (.row row 0 false (some 28))).push (.row [AV.int .i64 0, .str [], .nilp, .nilp, .int .i64 0, .str [], .nils, .nils, .nilp, .nils] 0 false (some 75))).put kc (.row [.int .i64 (s.steps + 1 : Nat), .int .i64 s.uses, .int .i64 F] 0 false (some 64))
structure Pre (F kw kc : Nat) (H : Heap) (bs : List Nat) (env : Env) (ev : AV) (s : S) (row : List AV) : Prop where
  st : St F kw kc (stepH F kc H s row) bs s.tick 0
  kp : Keep H (stepH F kc H s row)
  env : EnvR (stepH F kc H s row) bs env ev
  g0 : (stepH F kc H s row).t.get H.n = some (.row row 0 false (some 28))
  g1 : (stepH F kc H s row).t.get (H.n + 1) = some (.row [AV.int .i64 0, .str [], .nilp, .nilp, .int .i64 0, .str [], .nils, .nils, .nilp, .nils] 0 false (some 75))
  gc : ((H.push (.row row 0 false (some 28))).push (.row [AV.int .i64 0, .str [], .nilp, .nilp, .int .i64 0, .str [], .nils, .nils, .nilp, .nils] 0 false (some 75))).t.get kc = some (.row [.int .i64 s.steps, .int .i64 s.uses, .int .i64 F] 0 false (some 64))
  nw : ¬ kw = H.n
  nw1 : ¬ kw = H.n + 1
  nc : ¬ H.n = kc
  nc1 : ¬ H.n + 1 = kc
  low : HLow H
theorem pre28 {F kw kc : Nat} {H : Heap} {bs : List Nat} {env : Env} {ev : AV} {s : S} (row : List AV) (st : St F kw kc H bs s 1) (he : EnvR H bs env ev) (hF : ¬ s.steps + 1 > F) : Pre F kw kc H bs env ev s row := by
  have st2 := (st.push (ob := .row row 0 false (some 28))).push (ob := .row [AV.int .i64 0, .str [], .nilp, .nilp, .int .i64 0, .str [], .nils, .nils, .nilp, .nils] 0 false (some 75))
  have k2 : Keep H _ := (HKeep.push st.low (ob := .row row 0 false (some 28))).pushed st.low (ob := .row [AV.int .i64 0, .str [], .nilp, .nilp, .int .i64 0, .str [], .nils, .nils, .nilp, .nils] 0 false (some 75))
  have k3 := k2.trans (Keep.cell st2.c (.inr rfl) st2.low (ob := .row [.int .i64 (s.steps + 1 : Nat), .int .i64 s.uses, .int .i64 F] 0 false (some 64)))
  obtain ⟨wa, wb, gw⟩ := st.w
  have lc := st.low.lt st.c
  have lw := st.low.lt gw
  have n0 : ¬ H.n = kc := by omega
  have n1 : ¬ H.n + 1 = kc := by omega
  refine ⟨st2.count (st := s.steps + 1) (us := s.uses) (d' := 0) (by omega) (by have := st.uses; omega), k3, he.stay k3.stay, ?_, ?_, st2.c, by omega, by omega, n0, n1, st.low⟩
  · rw [h_gput, if_neg n0, h_get, if_neg (by rw [h_n]; omega), h_get, if_pos rfl]
  · rw [h_gput, if_neg n1, h_get, if_pos (by rw [h_n])]
theorem step_ok {F n : Nat} (h : ∀ (kc st us : Nat) H, st ≤ F → F ≤ 1099511627776 → H.t.get kc = some (.row [.int .i64 st, .int .i64 us, .int .i64 F] 0 false (some 64)) →
    callN P5 n 47 [.ptr (.new kc) 0] H = if st + 1 > F then some (.panic (stopV 6 []), H.put kc (.row [.int .i64 (st + 1 : Nat), .int .i64 us, .int .i64 F] 0 false (some 64))) else some (.ret (.tuple []), H.put kc (.row [.int .i64 (st + 1 : Nat), .int .i64 us, .int .i64 F] 0 false (some 64))))
    {kw kc : Nat} {H : Heap} {bs : List Nat} {env : Env} {ev : AV} {s : S} {row : List AV} (p : Pre F kw kc H bs env ev s row) (st : St F kw kc H bs s 1) (hF : ¬ s.steps + 1 > F) :
    callN P5 n 47 [.ptr (.new kc) 0] ((H.push (.row row 0 false (some 28))).push (.row [AV.int .i64 0, .str [], .nilp, .nilp, .int .i64 0, .str [], .nils, .nils, .nilp, .nils] 0 false (some 75))) = some (.ret (.tuple []), stepH F kc H s row) := by
  rw [h kc s.steps s.uses _ st.steps st.small p.gc, if_neg hF]
set_option maxHeartbeats 2000000 in
theorem ev6 {F : Nat} (t : Str) (ns : List Str) (l : List X) (env : Env) (s : S) (ht : (X.mk 6 t ns l).tame) : Ev (BodyOk F 6 t ns l env s (.val (.fn (.mk 6 t ns l) env []) s.tick)) := by
  refine Ev.succ ((step40 (F := F)).mono fun n e40 kw kc H bs ev st he hF => ?_)
  rw [callN_code (P := P5) (sf := c27) rfl (code27 _ _) rfl rfl]
  have p := pre28 [.int .i64 6, .str t, vStrs ns, vXs l] st he hF
  have e40 := step_ok e40 p st hF
  obtain ⟨wa, wb, gw⟩ := st.w
  have fe := he.flat
  simp -implicitDefEqProofs only [c27, ↓v_lenS, ZZ, Nat.reduceBEq, reduceIte, Nat.reduceAdd, Nat.reduceLeDiff, Nat.reduceEqDiff, Nat.reduceBneDiff, CL, XS, gw, p.nw, p.nw1, e40, p.g0, p.g1, Int.reduceBEq, fe]
  have k4 := p.kp.own p.low (by omega) (p.st.low.lt p.g1) (ob := .row [.int .i64 6, .str [], .nilp, .nilp, .int .i64 6, .str t, vStrs ns, vXs l, ev, .nils] 0 false (some 75))
  refine give_here (p.st.box p.g1 (by decide)) ?_ k4
  exact ⟨ev, .nils, rfl, ht, p.env.stay (Stay.put p.g1 (by decide) (by decide) (by decide)), .inl ⟨rfl, .inl rfl⟩, Nat.zero_le _⟩
set_option maxHeartbeats 2000000 in
theorem ev5 {F m : Nat} (ih : ForceOk F m) (t : Str) (ns : List Str) (l : List X) (env : Env) (s : S) (o : O V) (h : forceA F m (lookA env t s.tick).1 (lookA env t s.tick).2 = some o) : Ev (BodyOk F 5 t ns l env s o) := by
  refine Ev.succ (((step40 (F := F)).and ((find41 env t).and (ih _ _ _ h))).mono fun n hn kw kc H bs ev st he hF => ?_)
  obtain ⟨e40, e41, e39⟩ := hn
  rw [callN_code (P := P5) (sf := c27) rfl (code27 _ _) rfl rfl]
  have p := pre28 [.int .i64 5, .str t, vStrs ns, vXs l] st he hF
  have e40 := step_ok e40 p st hF
  obtain ⟨wa, wb, gw⟩ := st.w
  obtain ⟨cv, H4, q1, x, q2, q3, q4⟩ := e41 F kw kc 0 _ bs ev s.tick p.st p.env
  have hg := (e39 kw kc H4 (bs ++ x) cv q2 q3).more
  have g1 := q4.get _ _ p.g1 (quiet (by decide) (by decide))
  simp -implicitDefEqProofs only [c27, ↓v_lenS, ZZ, Nat.reduceBEq, reduceIte, Nat.reduceAdd, Nat.reduceLeDiff, Nat.reduceEqDiff, Nat.reduceBneDiff, CL, XS, gw, p.nw, p.nw1, e40, p.g0, Int.reduceBEq, q1]
  refine tail_store (k := H.n + 1) hg (p.kp.trans q4) st.low (by omega) g1 rfl rfl (by decide) ?_
  intro fr' H' cs hb hk hl
  simp -implicitDefEqProofs only [↓v_lenS, ZZ, Nat.reduceBEq, reduceIte, Nat.reduceAdd, Nat.reduceLeDiff, Nat.reduceEqDiff, Nat.reduceBneDiff, hb, hk, hl, List.take_of_length_le (Nat.le_of_eq hl)]
set_option maxHeartbeats 2000000 in
theorem evc {F : Nat} (k : Int) (t : Str) (ns : List Str) (l : List X) (env : Env) (s : S) (hk : ¬ k = 5 ∧ ¬ k = 6 ∧ ¬ k = 7 ∧ ¬ k = 8 ∧ ¬ k = 9 ∧ ¬ k = 10) (hn : numOk k t) : Ev (BodyOk F k t ns l env s (.val (constV k t) s.tick)) := by
  obtain ⟨h5, h6, h7, h8, h9, h10⟩ := hk
  refine Ev.succ (((step40 (F := F)).and const46).mono fun n hn' kw kc H bs ev st he hF => ?_)
  obtain ⟨e40, e46⟩ := hn'
  rw [callN_code (P := P5) (sf := c27) rfl (code27 _ _) rfl rfl]
  have p := pre28 [.int .i64 k, .str t, vStrs ns, vXs l] st he hF
  have e40 := step_ok e40 p st hF
  obtain ⟨wa, wb, gw⟩ := st.w
  have b5 : (k == 5) = false := by simpa using h5
  have b6 : (k == 6) = false := by simpa using h6
  have b7 : (k == 7) = false := by simpa using h7
  have b8 : (k == 8) = false := by simpa using h8
  have b9 : (k == 9) = false := by simpa using h9
  have b10 : (k == 10) = false := by simpa using h10
  have e46' := fun H => e46 k t ns l H
  unfold constCs at e46'
  simp only [E0] at e46'
  have k4 := p.kp.own p.low (by omega) (p.st.low.lt p.g1) (ob := .row (constCs k t) 0 false (some 75))
  have fin : GiveV F kw kc H bs (some (.ret (.agg (constCs k t)), (stepH F kc H s [.int .i64 k, .str t, vStrs ns, vXs l]).put (H.n + 1) (.row (constCs k t) 0 false (some 75)))) (.val (constV k t) s.tick) := give_here (p.st.box p.g1 (by decide)) (const_val hn) k4
  simp only [constCs, E0] at fin
  simp -implicitDefEqProofs only [c27, ↓v_lenS, ZZ, Nat.reduceBEq, reduceIte, Nat.reduceAdd, Nat.reduceLeDiff, Nat.reduceEqDiff, Nat.reduceBneDiff, CL, XS, gw, p.nw, p.nw1, e40, p.g0, p.g1, b5, b6, b7, b8, b9, b10, e46']
  exact fin
set_option maxHeartbeats 4000000 in
theorem ev8 {F m : Nat} (ih : EvalOk F m) (t : Str) (ns : List Str) (c a b : X) (env : Env) (s : S) (o : O V) (hc : c.tame) (ha : a.tame) (hb : b.tame) (h : ((evalA F m c env s.tick).bind fun r => r.bind fun v s => evalA F m (if v.isFalse then b else a) env s) = some o) : Ev (BodyOk F 8 t ns [c, a, b] env s o) := by
  have hB : Ev fun n => ∀ p, evalA F m c env s.tick = some p → ∀ v s1, p = .val v s1 → ∀ q, evalA F m (if v.isFalse then b else a) env s1 = some q → ∀ kw kc H bs ev, St F kw kc H bs s1 1 → EnvR H bs env ev → GiveV F kw kc H bs (callN P5 n 27 [.ptr (.new kw) 0, (if v.isFalse then b else a).v, ev] H) q :=
    Ev.opt fun p hp => Ev.val fun v s1 _ => ih.get _ env s1 (by split <;> assumption)
  refine Ev.succ (((step40 (F := F)).and ((ih.get c env s.tick hc).and hB)).mono fun n hn kw kc H bs ev st he hF => ?_)
  obtain ⟨e40, eC, eB⟩ := hn
  rw [callN_code (P := P5) (sf := c27) rfl (code27 _ _) rfl rfl]
  have p := pre28 [.int .i64 8, .str t, vStrs ns, vXs [c, a, b]] st he hF
  have e40 := step_ok e40 p st hF
  obtain ⟨wa, wb, gw⟩ := st.w
  obtain ⟨q, hq, h⟩ := Option.bind_eq_some_iff.1 h
  have hC := eC q hq kw kc _ bs ev (p.st.weak (by omega)) p.env
  obtain ⟨kx, tx, nx, lx⟩ := c
  obtain ⟨ka, ta, na, la⟩ := a
  obtain ⟨kb, tb, nb, lb⟩ := b
  have i0 : iaddrV 4 (vXs [.mk kx tx nx lx, .mk ka ta na la, .mk kb tb nb lb]) 0 = some (.ptr (.val (X.mk kx tx nx lx).cells) 0) := iaddr_vXs rfl
  have i1 : iaddrV 4 (vXs [.mk kx tx nx lx, .mk ka ta na la, .mk kb tb nb lb]) 1 = some (.ptr (.val (X.mk ka ta na la).cells) 0) := iaddr_vXs rfl
  have i2 : iaddrV 4 (vXs [.mk kx tx nx lx, .mk ka ta na la, .mk kb tb nb lb]) 2 = some (.ptr (.val (X.mk kb tb nb lb).cells) 0) := iaddr_vXs rfl
  rw [X.v_mk] at hC
  cases q with
  | stop kk tt s' =>
    obtain rfl := (Option.some.inj h).symm
    obtain ⟨H', q1, q2, q3⟩ := hC
    simp -implicitDefEqProofs only [c27, ↓v_lenS, ZZ, Nat.reduceBEq, reduceIte, Nat.reduceAdd, Nat.reduceLeDiff, Nat.reduceEqDiff, Nat.reduceBneDiff, CL, XS, gw, p.nw, p.nw1, e40, p.g0, Int.reduceBEq, Int.reduceLE, Int.reduceToNat, i0, i1, i2, X.cells_mk, q1]
    exact ⟨H', rfl, q2, p.kp.trans q3⟩
  | val v s1 =>
    have h : evalA F m (if v.isFalse then .mk kb tb nb lb else .mk ka ta na la) env s1 = some o := h
    obtain ⟨cs, H', x, q1, q2, q3, q4⟩ := hC
    obtain ⟨ty, c2, c3, c4, c5, c6, c7, c8, c9, rfl, hty, _, _, ⟨f2, f3, f4, f5⟩, ⟨f6, f7, f8, f9⟩⟩ := q2.ten
    have k4 := p.kp.trans q4
    have st5 := (q3.push (ob := .row [AV.int .i64 0, .str [], .nilp, .nilp, .int .i64 0, .str [], .nils, .nils, .nilp, .nils] 0 false (some 75))).box (k := H'.n) (t := 75) (by rw [h_get, if_pos rfl]) (by decide) (ob := .row [.int .i64 v.kind, .str ty, c2, c3, c4, c5, c6, c7, c8, c9] 0 false (some 75))
    have k5 : Keep H' ((H'.push (.row [AV.int .i64 0, .str [], .nilp, .nilp, .int .i64 0, .str [], .nils, .nils, .nilp, .nils] 0 false (some 75))).put H'.n (.row [.int .i64 v.kind, .str ty, c2, c3, c4, c5, c6, c7, c8, c9] 0 false (some 75))) := (HKeep.push q3.low).own q3.low (Nat.le_refl _) (by rw [h_n]; omega)
    have he5 := (he.keep (x := x) k4.stay).keep (x := []) k5.stay
    rw [List.append_nil] at he5
    have hg := (eB _ hq v s1 rfl o h kw kc _ (bs ++ x) ev (st5.weak (by omega)) he5).more
    have g0' := q4.get _ _ p.g0 (quiet (by decide) (by decide))
    have l0 := q3.low.lt g0'
    have n0 : ¬ H.n = H'.n := by omega
    have n1 : ¬ H'.n = H.n := by omega
    have g1 := k5.get _ _ (q4.get _ _ p.g1 (quiet (by decide) (by decide))) (quiet (by decide) (by decide))
    have tl : ∀ {r : R} {fr : Fr} {d : Nat} {K : Fr → Heap → R}, GiveV F kw kc ((H'.push (.row [AV.int .i64 0, .str [], .nilp, .nilp, .int .i64 0, .str [], .nils, .nils, .nilp, .nils] 0 false (some 75))).put H'.n (.row [.int .i64 v.kind, .str ty, c2, c3, c4, c5, c6, c7, c8, c9] 0 false (some 75))) bs r o → fr 6 = .ptr (.new (H.n + 1)) 0 → 6 ≠ d → (∀ fr' H' cs, fr' 6 = .ptr (.new (H.n + 1)) 0 → H'.t.get (H.n + 1) = some (.row cs 0 false (some 75)) → cs.length = 10 → K fr' H' = some (.ret (.agg cs), H')) →
        GiveV F kw kc H bs (stepC r (callN P5 n) (some d) [⟨none, none, .w (.store 10 (.tmp 6) (.tmp d))⟩] fr K) o := fun hg hfr hd hK => tail_store (k := H.n + 1) hg (k4.trans k5) st.low (by omega) g1 rfl hfr hd hK
    cases hk : (v.kind == 2) with
    | false =>
      have hf : v.isFalse = false := by simp [V.isFalse, hk]
      rw [hf] at hg
      simp only [Bool.false_eq_true, if_false, X.v_mk] at hg
      simp -implicitDefEqProofs only [c27, ↓v_lenS, ZZ, Nat.reduceBEq, reduceIte, Nat.reduceAdd, Nat.reduceLeDiff, Nat.reduceEqDiff, Nat.reduceBneDiff, CL, XS, gw, p.nw, p.nw1, e40, p.g0, Int.reduceBEq, Int.reduceLE, Int.reduceToNat, i0, i1, i2, X.cells_mk, q1, hk, f2, f3, f4, f5, f6, f7, f8, f9, g0', n0, n1]
      refine tl hg rfl (by decide) ?_
      intro fr' H' cs hb hk hl
      simp -implicitDefEqProofs only [↓v_lenS, ZZ, Nat.reduceBEq, reduceIte, Nat.reduceAdd, Nat.reduceLeDiff, Nat.reduceEqDiff, Nat.reduceBneDiff, hb, hk, hl, List.take_of_length_le (Nat.le_of_eq hl)]
    | true =>
      have hk2 : v.kind = 2 := by simpa using hk
      have hf : v.isFalse = (ty == [35, 102]) := by rw [V.isFalse, hk, hty (by omega)]; rfl
      rw [hf] at hg
      cases ht : (ty == [35, 102]) with
      | true =>
        rw [ht] at hg
        simp only [if_true, X.v_mk] at hg
        simp -implicitDefEqProofs only [c27, ↓v_lenS, ZZ, Nat.reduceBEq, reduceIte, Nat.reduceAdd, Nat.reduceLeDiff, Nat.reduceEqDiff, Nat.reduceBneDiff, CL, XS, gw, p.nw, p.nw1, e40, p.g0, Int.reduceBEq, Int.reduceLE, Int.reduceToNat, i0, i1, i2, X.cells_mk, q1, hk, ht, f2, f3, f4, f5, f6, f7, f8, f9, g0', n0, n1]
        refine tl hg rfl (by decide) ?_
        intro fr' H' cs hb hk hl
        simp -implicitDefEqProofs only [↓v_lenS, ZZ, Nat.reduceBEq, reduceIte, Nat.reduceAdd, Nat.reduceLeDiff, Nat.reduceEqDiff, Nat.reduceBneDiff, hb, hk, hl, List.take_of_length_le (Nat.le_of_eq hl)]
      | false =>
        rw [ht] at hg
        simp only [Bool.false_eq_true, if_false, X.v_mk] at hg
        simp -implicitDefEqProofs only [c27, ↓v_lenS, ZZ, Nat.reduceBEq, reduceIte, Nat.reduceAdd, Nat.reduceLeDiff, Nat.reduceEqDiff, Nat.reduceBneDiff, CL, XS, gw, p.nw, p.nw1, e40, p.g0, Int.reduceBEq, Int.reduceLE, Int.reduceToNat, i0, i1, i2, X.cells_mk, q1, hk, ht, f2, f3, f4, f5, f6, f7, f8, f9, g0', n0, n1]
        refine tl hg rfl (by decide) ?_
        intro fr' H' cs hb hk hl
        simp -implicitDefEqProofs only [↓v_lenS, ZZ, Nat.reduceBEq, reduceIte, Nat.reduceAdd, Nat.reduceLeDiff, Nat.reduceEqDiff, Nat.reduceBneDiff, hb, hk, hl, List.take_of_length_le (Nat.le_of_eq hl)]
end Go.Lite

/-
  A heap without the list that is being made; small functions over it.
-/
namespace Go.Lite
open Go Go.Proofs
structure View (V H : Heap) : Prop where
  n : V.n = H.n
  get : ∀ j o, V.t.get j = some o → H.t.get j = some o
theorem View.refl {H : Heap} : View H H := ⟨rfl, fun _ _ h => h⟩
theorem View.stay {V H : Heap} (h : View V H) : Stay V H := fun j cs es fz t g _ => h.get _ _ g
theorem View.push {V H : Heap} (h : View V H) {ob : Obj} : View (V.push ob) (H.push ob) := ⟨by rw [h_n, h_n, h.n], fun j o g => by
  rw [h_get] at g ⊢
  rw [h.n] at g
  split at g
  · rename_i e; rw [if_pos e]; exact g
  · rename_i e; rw [if_neg e]; exact h.get _ _ g⟩
theorem View.put {V H : Heap} (h : View V H) {k : Nat} {ob : Obj} : View (V.put k ob) (H.put k ob) := ⟨h.n, fun j o g => by
  rw [h_gput] at g ⊢
  split at g
  · rename_i e; rw [if_pos e]; exact g
  · rename_i e; rw [if_neg e]; exact h.get _ _ g⟩
theorem St.view {F kw kc : Nat} {V H : Heap} {bs : List Nat} {s : S} {d : Nat} (h : St F kw kc V bs s d) (v : View V H) (low : HLow H) : St F kw kc H bs s d := h.keep low v.stay fun j cs t g _ => v.get _ _ g
def Bare (V V' : Heap) : Prop := ∀ k, k < V.n → V.t.get k = none → V'.t.get k = none
theorem Bare.refl {V : Heap} : Bare V V := fun _ _ h => h
theorem Bare.push {V : Heap} {ob : Obj} : Bare V (V.push ob) := fun k hk h => by rw [h_get, if_neg (by omega)]; exact h
theorem Bare.trans {A B C : Heap} (h : Bare A B) (k : Bare B C) (hn : A.n ≤ B.n) : Bare A C := fun j hj g => k j (by omega) (h j hj g)
def GiveW (F kw kc d : Nat) (V H : Heap) (bs : List Nat) (r : R) (q : Nat × S) : Prop := Gives r fun cv H' => ∃ V' x, St F kw kc V' (bs ++ x) q.2 d ∧ PC (bs ++ x) q.1 cv ∧ View V' H' ∧ Keep V V' ∧ Keep H H' ∧ Bare V V'
theorem find41W (env : Env) (name : Str) : Ev fun n => ∀ F kw kc d V H bs ev s, HLow H → View V H → St F kw kc V bs s d → EnvR V bs env ev → GiveW F kw kc d V H bs (callN P5 n 48 [ev, .str name] H) (lookA env name s) := by
  refine Ev.succ ((Ev.ge (env.length + 3)).mono fun n hn F kw kc d V H bs ev s low vw st he => ?_)
  rw [callN_code (P := P5) (sf := c48) rfl (code48 _ _) rfl rfl]
  unfold GiveW
  simp -implicitDefEqProofs only [c48, ↓v_lenS, ZZ, Nat.reduceBEq, reduceIte, Nat.reduceAdd, Nat.reduceLeDiff, Nat.reduceEqDiff, Nat.reduceBneDiff, CL]
  refine find_loop (name := name) env ev (he.stay vw.stay) n _ (by omega) rfl rfl ?_ ?_
  · intro p c fr' h1 h2 h3
    simp -implicitDefEqProofs only [↓v_lenS, ZZ, Nat.reduceBEq, reduceIte, Nat.reduceAdd, Nat.reduceLeDiff, Nat.reduceEqDiff, Nat.reduceBneDiff, h3, gives_ret]
    refine ⟨V, [], ?_⟩
    simp only [lookA, h1, List.append_nil]
    exact ⟨st, h2, vw, HKeep.refl, HKeep.refl, Bare.refl⟩
  · intro fr' h1
    simp -implicitDefEqProofs only [↓v_lenS, ZZ, Nat.reduceBEq, reduceIte, Nat.reduceAdd, Nat.reduceLeDiff, Nat.reduceEqDiff, Nat.reduceBneDiff, gives_ret]
    refine ⟨V.push (.row [.int .i64 3, .str [40, 41], .nilp, .nilp, .int .i64 0, .str [], .nils, .nils, .nilp, .nils, .int .i64 0, .str [], .nils, .nils, .nilp, .bool true, .bool false] 0 false (some 110)), [V.n], ?_⟩
    simp only [lookA, h1]
    refine ⟨st.new (c := .done (.atom 3 emptyT)) ⟨[_, _, _, _, _, _, _, _, _, _], _, _, _, _, _, _, rfl, _, _, _, _, _, _, _, _, rfl, by decide, by decide, ⟨by decide, fun h => by cases h⟩, ⟨rfl, rfl, rfl, rfl⟩, ⟨rfl, rfl, rfl, rfl⟩⟩, ?_, vw.push, HKeep.push st.low, HKeep.push low, Bare.push⟩
    rw [show (S.new s (.done (.atom 3 emptyT))).1 = bs.length from st.len.symm, ← vw.n]
    exact PC.new
theorem done25W : Ev fun n => ∀ F kw kc d V H bs cs s v, HLow H → View V H → St F kw kc V bs s d → ValR V bs v cs → GiveW F kw kc d V H bs (callN P5 n 24 [.agg cs] H) (s.new (.done v)) := by
  refine Ev.succ ((Ev.ge 3).mono fun n hn F kw kc d V H bs cs s v low vw st hv => ?_)
  rw [callN_code (P := P5) (sf := c24) rfl (code24 _ _) rfl rfl]
  unfold GiveW
  obtain ⟨t, c2, c3, c4, c5, c6, c7, c8, c9, rfl, _, _, _, ⟨f2, f3, f4, f5⟩, ⟨f6, f7, f8, f9⟩⟩ := hv.ten
  simp -implicitDefEqProofs only [c24, ↓v_lenS, ZZ, Nat.reduceBEq, reduceIte, Nat.reduceAdd, Nat.reduceLeDiff, Nat.reduceEqDiff, Nat.reduceBneDiff, CL, f2, f3, f4, f5, f6, f7, f8, f9, gives_ret]
  refine ⟨(V.push (.row [.int .i64 v.kind, .str t, c2, c3, c4, c5, c6, c7, c8, c9] 0 false (some 75))).push (.row [.int .i64 v.kind, .str t, c2, c3, c4, c5, c6, c7, c8, c9, .int .i64 0, .str [], .nils, .nils, .nilp, .bool true, .bool false] 0 false (some 110)), [(V.push (.row [.int .i64 v.kind, .str t, c2, c3, c4, c5, c6, c7, c8, c9] 0 false (some 75))).n], ?_, ?_, vw.push.push, (HKeep.push st.low).pushed st.low, (HKeep.push low).pushed low, Bare.push.trans Bare.push (by rw [h_n]; omega)⟩
  · exact (st.push (ob := .row [.int .i64 v.kind, .str t, c2, c3, c4, c5, c6, c7, c8, c9] 0 false (some 75))).new (c := .done v) ⟨[_, _, _, _, _, _, _, _, _, _], _, _, _, _, _, _, rfl, hv.stay (Stay.push st.low)⟩
  · rw [show (S.new s (.done v)).1 = bs.length from st.len.symm, h_n, vw.n]
    exact PC.new
theorem argument42W (e : X) (env : Env) (ht : e.tame) : Ev fun n => ∀ F kw kc d V H bs ev s, HLow H → View V H → St F kw kc V bs s d → EnvR V bs env ev → GiveW F kw kc d V H bs (callN P5 n 49 [e.v, ev] H) (argA e env s) := by
  obtain ⟨k, t, ns, a⟩ := e
  rw [X.tame] at ht
  refine Ev.succ (((find41W env t).and (const46.and (done25W.and (Ev.ge 3)))).mono fun n hn F kw kc d V H bs ev s low vw st he => ?_)
  obtain ⟨e41, e46, e25, hn⟩ := hn
  rw [callN_code (P := P5) (sf := c49) rfl (code49 _ _) rfl rfl]
  unfold GiveW
  rw [X.v_mk]
  have fe := he.flat
  have st1 := st.push (ob := .row [.int .i64 k, .str t, vStrs ns, vXs a] 0 false (some 28))
  have kp1 : Keep V (V.push (.row [.int .i64 k, .str t, vStrs ns, vXs a] 0 false (some 28))) := HKeep.push st.low
  have kh1 : Keep H (H.push (.row [.int .i64 k, .str t, vStrs ns, vXs a] 0 false (some 28))) := HKeep.push low
  have vw1 := vw.push (ob := .row [.int .i64 k, .str t, vStrs ns, vXs a] 0 false (some 28))
  have br1 : Bare V (V.push (.row [.int .i64 k, .str t, vStrs ns, vXs a] 0 false (some 28))) := Bare.push
  have low1 := low.push (ob := .row [.int .i64 k, .str t, vStrs ns, vXs a] 0 false (some 28))
  have he1 := he.stay kp1.stay
  by_cases h5 : k = 5
  · subst h5
    simp -implicitDefEqProofs only [c49, ↓v_lenS, ZZ, Nat.reduceBEq, reduceIte, Nat.reduceAdd, Nat.reduceLeDiff, Nat.reduceEqDiff, Nat.reduceBneDiff, CL, XS, argA]
    refine gives_call (e41 F kw kc d _ _ bs ev s low1 vw1 st1 he1) ?_
    rintro cv H' ⟨V', x, g1, g2, g3, g4, g5, g6⟩
    simp -implicitDefEqProofs only [↓v_lenS, ZZ, Nat.reduceBEq, reduceIte, Nat.reduceAdd, Nat.reduceLeDiff, Nat.reduceEqDiff, Nat.reduceBneDiff, gives_ret]
    exact ⟨V', x, g1, g2, g3, kp1.trans g4, kh1.trans g5, br1.trans g6 kp1.n⟩
  have b5 : (k == 5) = false := by simpa using h5
  by_cases h14 : 1 ≤ k ∧ k ≤ 4
  · have hk : k = 1 ∨ k = 2 ∨ k = 3 ∨ k = 4 := by omega
    have ha : argA (.mk k t ns a) env s = s.new (.done (constV k t)) := by simp only [argA, if_neg h5, if_pos h14]
    rw [ha]
    have key : ∀ cs V' H', cs = constCs k t → HLow H' → View V' H' → Keep V V' → Keep H H' → Bare V V' → St F kw kc V' bs s d → Gives (callN P5 n 24 [.agg cs] H') fun cv H' => ∃ V' x, St F kw kc V' (bs ++ x) (s.new (.done (constV k t))).2 d ∧ PC (bs ++ x) (s.new (.done (constV k t))).1 cv ∧ View V' H' ∧ Keep V V' ∧ Keep H H' ∧ Bare V V' := by
      rintro cs V' H' rfl l1 v1 k1 k2 b1 s1
      refine (e25 F kw kc d V' H' bs _ s (constV k t) l1 v1 s1 (const_val ht.1)).mono ?_
      rintro cv H2 ⟨V2, x, g1, g2, g3, g4, g5, g6⟩
      exact ⟨V2, x, g1, g2, g3, k1.trans g4, k2.trans g5, b1.trans g6 k1.n⟩
    rcases hk with rfl | rfl | rfl | rfl <;>
    · simp -implicitDefEqProofs only [c49, ↓v_lenS, ZZ, Nat.reduceBEq, reduceIte, Nat.reduceAdd, Nat.reduceLeDiff, Nat.reduceEqDiff, Nat.reduceBneDiff, CL, XS, e46, Int.reduceBEq]
      refine gives_call (key _ _ _ rfl low1 vw1 kp1 kh1 br1 st1) ?_
      rintro cv H' g
      simp -implicitDefEqProofs only [↓v_lenS, ZZ, Nat.reduceBEq, reduceIte, Nat.reduceAdd, Nat.reduceLeDiff, Nat.reduceEqDiff, Nat.reduceBneDiff, gives_ret]
      exact g
  · have b1 : (k == 1) = false := by simp; omega
    have b2 : (k == 2) = false := by simp; omega
    have b3 : (k == 3) = false := by simp; omega
    have b4 : (k == 4) = false := by simp; omega
    have ha : argA (.mk k t ns a) env s = s.new (.wait (.mk k t ns a) env) := by simp only [argA, if_neg h5, if_neg h14]
    rw [ha]
    simp -implicitDefEqProofs only [c49, ↓v_lenS, ZZ, Nat.reduceBEq, reduceIte, Nat.reduceAdd, Nat.reduceLeDiff, Nat.reduceEqDiff, Nat.reduceBneDiff, CL, XS, b1, b2, b3, b4, b5, fe, gives_ret]
    refine ⟨(V.push (.row [.int .i64 k, .str t, vStrs ns, vXs a] 0 false (some 28))).push (.row ([AV.int .i64 0, .str [], .nilp, .nilp, .int .i64 0, .str [], .nils, .nils, .nilp, .nils] ++ [.int .i64 k, .str t, vStrs ns, vXs a, ev, .bool false, .bool false]) 0 false (some 110)), [(V.push (.row [.int .i64 k, .str t, vStrs ns, vXs a] 0 false (some 28))).n], st1.new (c := .wait (.mk k t ns a) env) ⟨_, rfl, by rw [X.tame]; exact ht, he1⟩, ?_, vw1.push, kp1.pushed st.low, kh1.pushed low, br1.trans Bare.push kp1.n⟩
    rw [show (S.new s (.wait (.mk k t ns a) env)).1 = bs.length from st.len.symm, h_n, vw.n]
    exact PC.new
theorem grow_view {N : Nat} {V H H7 : Heap} {i : Nat} {cells : List AV} {lv : AV} {c : AV} (vw : View V H) (bare : ∀ j o, blk lv j o → V.t.get j = none) (low : HLow V)
    (kp : HKeep (blk lv) H H7) (hn : H7.n = H.n + 1) : ∃ V7, View V7 H7 ∧ V7.t.get H.n = none ∧ (∀ j, V7.t.get j = V.t.get j) ∧ V7.n = V.n + 1 := by
  have hg : ∀ j, ((V.push (.iter [] 0)).del V.n).t.get j = V.t.get j := fun j => by
    rw [h_gdel]
    split
    · rename_i e
      subst e
      cases hv : V.t.get V.n with
      | none => rfl
      | some o => exact absurd (low _ _ hv) (by omega)
    · rename_i e
      rw [h_get, if_neg e]
  refine ⟨(V.push (.iter [] 0)).del V.n, ⟨by rw [h_ndel, h_n, hn, vw.n], fun j o g => ?_⟩, ?_, hg, by rw [h_ndel, h_n]⟩
  · rw [hg] at g
    refine kp.get _ _ (vw.get _ _ g) fun hb => ?_
    rw [bare j o hb] at g
    cases g
  · rw [hg, ← vw.n]
    cases hv : V.t.get V.n with
    | none => rfl
    | some o => exact absurd (low _ _ hv) (by omega)
theorem St.same {F kw kc : Nat} {V V' : Heap} {bs : List Nat} {s : S} {d : Nat} (h : St F kw kc V bs s d) (hg : ∀ j, V'.t.get j = V.t.get j) (hn : V.n ≤ V'.n) : St F kw kc V' bs s d :=
  h.keep (fun j o g => by rw [hg] at g; have := h.low _ _ g; omega) (fun j cs es fz t g _ => by rw [hg]; exact g) fun j cs t g _ => by rw [hg]; exact g
end Go.Lite

/-
  A term's value: primitives, what is applied.
-/
namespace Go.Lite
open Go Go.Proofs
set_option maxHeartbeats 2000000 in
theorem ev10b {F m : Nat} (ih : EvalOk F m) (t : Str) (ns : List Str) (a b : X) (env : Env) (s : S) (o : O V) (ha : a.tame) (hb : b.tame) (h : twoF F m t a b env s.tick = some o) : Ev (BodyOk F 10 t ns [a, b] env s o) := by
  refine Ev.succ (((step40 (F := F)).and (two44 ih 10 t ns a b env s.tick o ha hb h)).mono fun n hn kw kc H bs ev st he hF => ?_)
  obtain ⟨e40, e44⟩ := hn
  rw [callN_code (P := P5) (sf := c27) rfl (code27 _ _) rfl rfl]
  have p := pre28 [.int .i64 10, .str t, vStrs ns, vXs [a, b]] st he hF
  have e40 := step_ok e40 p st hF
  obtain ⟨wa, wb, gw⟩ := st.w
  have hg := e44 kw kc _ bs ev p.st p.env
  have hl2 : (((2 : Nat) : Int) == 2) = true := rfl
  simp -implicitDefEqProofs only [c27, ↓v_lenS, ZZ, Nat.reduceBEq, reduceIte, Nat.reduceAdd, Nat.reduceLeDiff, Nat.reduceEqDiff, Nat.reduceBneDiff, CL, XS, gw, p.nw, p.nw1, e40, p.g0, Int.reduceBEq, hl2]
  refine tail_store (k := H.n + 1) hg p.kp st.low (by omega) p.g1 rfl rfl (by decide) ?_
  intro fr' H' cs hb hk hl
  simp -implicitDefEqProofs only [↓v_lenS, ZZ, Nat.reduceBEq, reduceIte, Nat.reduceAdd, Nat.reduceLeDiff, Nat.reduceEqDiff, Nat.reduceBneDiff, hb, hk, hl, List.take_of_length_le (Nat.le_of_eq hl)]
set_option maxHeartbeats 2000000 in
theorem ev10a {F m : Nat} (ih : EvalOk F m) (ihF : ForceOk F m) (t : Str) (ns : List Str) (a : X) (env : Env) (s : S) (o : O V) (ha : a.tame) (h : ((evalA F m a env s.tick).bind fun r => r.bind fun v s => oneF (forceA F m) t v s) = some o) : Ev (BodyOk F 10 t ns [a] env s o) := by
  have hB : Ev fun n => ∀ p, evalA F m a env s.tick = some p → ∀ v s1, p = .val v s1 → ∀ q, oneF (forceA F m) t v s1 = some q → ∀ kw kc H bs cs, St F kw kc H bs s1 0 → ValR H bs v cs → GiveV F kw kc H bs (callN P5 n 52 [.ptr (.new kw) 0, .str t, .agg cs] H) q :=
    Ev.opt fun p hp => Ev.val fun v s1 _ => Ev.opt fun q hq => one45 ihF t v s1 q hq
  refine Ev.succ (((step40 (F := F)).and ((ih.get a env s.tick ha).and hB)).mono fun n hn kw kc H bs ev st he hF => ?_)
  obtain ⟨e40, eA, eB⟩ := hn
  rw [callN_code (P := P5) (sf := c27) rfl (code27 _ _) rfl rfl]
  have p := pre28 [.int .i64 10, .str t, vStrs ns, vXs [a]] st he hF
  have e40 := step_ok e40 p st hF
  obtain ⟨wa, wb, gw⟩ := st.w
  obtain ⟨q, hq, h⟩ := Option.bind_eq_some_iff.1 h
  have hA := eA q hq kw kc _ bs ev (p.st.weak (by omega)) p.env
  obtain ⟨ka, ta, na, la⟩ := a
  have i0 : iaddrV 4 (vXs [.mk ka ta na la]) 0 = some (.ptr (.val (X.mk ka ta na la).cells) 0) := iaddr_vXs rfl
  have hl2 : (((1 : Nat) : Int) == 2) = false := rfl
  rw [X.v_mk] at hA
  cases q with
  | stop kk tt s' =>
    obtain rfl := (Option.some.inj h).symm
    obtain ⟨H', q1, q2, q3⟩ := hA
    simp -implicitDefEqProofs only [c27, ↓v_lenS, ZZ, Nat.reduceBEq, reduceIte, Nat.reduceAdd, Nat.reduceLeDiff, Nat.reduceEqDiff, Nat.reduceBneDiff, CL, XS, gw, p.nw, p.nw1, e40, p.g0, Int.reduceBEq, hl2, Int.reduceLE, Int.reduceToNat, i0, X.cells_mk, q1]
    exact ⟨H', rfl, q2, p.kp.trans q3⟩
  | val v s1 =>
    have h : oneF (forceA F m) t v s1 = some o := h
    obtain ⟨cs, H', x, q1, q2, q3, q4⟩ := hA
    have hg := (eB _ hq v s1 rfl o h kw kc H' (bs ++ x) cs q3 q2).more
    have g0' := q4.get _ _ p.g0 (quiet (by decide) (by decide))
    have g1' := q4.get _ _ p.g1 (quiet (by decide) (by decide))
    have k4 := p.kp.trans q4
    cases o with
    | stop kk tt s2 =>
      obtain ⟨H3, z1, z2, z3⟩ := hg
      simp -implicitDefEqProofs only [c27, ↓v_lenS, ZZ, Nat.reduceBEq, reduceIte, Nat.reduceAdd, Nat.reduceLeDiff, Nat.reduceEqDiff, Nat.reduceBneDiff, CL, XS, gw, p.nw, p.nw1, e40, p.g0, Int.reduceBEq, hl2, Int.reduceLE, Int.reduceToNat, i0, X.cells_mk, q1, g0', z1]
      exact ⟨H3, rfl, z2, k4.trans z3⟩
    | val w s2 =>
      obtain ⟨cw, H3, y, z1, z2, z3, z4⟩ := hg
      obtain ⟨tx, d2, d3, d4, d5, d6, d7, d8, d9, rfl, _, _, _, ⟨e2, e3, e4, e5⟩, ⟨e6, e7, e8, e9⟩⟩ := z2.ten
      have g1'' := z4.get _ _ g1' (quiet (by decide) (by decide))
      simp -implicitDefEqProofs only [c27, ↓v_lenS, ZZ, Nat.reduceBEq, reduceIte, Nat.reduceAdd, Nat.reduceLeDiff, Nat.reduceEqDiff, Nat.reduceBneDiff, CL, XS, gw, p.nw, p.nw1, e40, p.g0, Int.reduceBEq, hl2, Int.reduceLE, Int.reduceToNat, i0, X.cells_mk, q1, g0', z1, g1'', e2, e3, e4, e5, e6, e7, e8, e9]
      exact ⟨_, _, y, rfl, z2.stay (Stay.put g1'' (by decide) (by decide) (by decide)), z3.box g1'' (by decide), (k4.trans z4).own st.low (by omega) (z3.low.lt g1'')⟩
/-! ### Arguments -/
theorem argsA_snoc (env : Env) (e : X) : ∀ (l : List X) (s : S), argsA env (l ++ [e]) s = ((argsA env l s).1 ++ [(argA e env (argsA env l s).2).1], (argA e env (argsA env l s).2).2)
  | [], s => rfl
  | a :: l, s => by simp only [List.cons_append, argsA, argsA_snoc env e l]
theorem argsA_len (env : Env) : ∀ (l : List X) (s : S), (argsA env l s).1.length = l.length
  | [], s => rfl
  | a :: l, s => by simp only [argsA, List.length_cons, argsA_len env l]
def AL (la : List X) : AV := .lst 4 la.length false (la.flatMap X.cells)
theorem AL_len (la : List X) : (la.flatMap X.cells).length = la.length * 4 := by
  induction la with
  | nil => rfl
  | cons x l ih => rw [List.flatMap_cons, List.length_append, X.cells_len, ih, List.length_cons]; omega
theorem slice_vXs (f : X) (la : List X) : sliceOf 4 (vXs (f :: la)) (some 1) none none = some (AL la) := by
  unfold vXs AL
  rw [vList_cons]
  simp only [sliceOf, Option.getD_none, Option.getD_some]
  rw [if_pos ⟨by omega, Nat.le_refl _, Nat.le_refl _, .inl trivial⟩]
  have h := flat_drop X.cells_len (f :: la) 1
  rw [List.flatMap_cons] at h
  rw [h, List.drop_one, List.tail_cons, List.take_of_length_le (by rw [AL_len]; omega)]
  simp only [cond_false, Nat.add_sub_cancel]
theorem iaddr_AL {la : List X} {i : Nat} {e : X} (h : la[i]? = some e) : iaddrV 4 (AL la) i = some (.ptr (.val e.cells) 0) := by
  have := flat_at X.cells_len la i
  unfold AL
  rw [iaddr_lst, if_pos ⟨(List.getElem?_eq_some_iff.1 h).1, rfl⟩, this, h]
theorem len_AL {la : List X} : lenM (AL la) = some (.int .i64 la.length) := rfl
def Priv (V : Heap) (lv : AV) : Prop := ∀ j o, blk lv j o → V.t.get j = none
theorem priv_more {F kw kc : Nat} {H0 H V : Heap} {bs : List Nat} {s : S} {d i : Nat} {cs : List AV} {lv cv : AV} (acc : Acc H0.n H 70 1 i cs lv) (kp : Keep H0 H) (low0 : HLow H0) (low : HLow H) (vw : View V H) (st : St F kw kc V bs s d) (pv : Priv V lv) (fcv : cv.flat = true) (hi : i ≤ 1000) :
    ∃ H7 V7, appendOf 70 1 8 (H.push (.row [cv] 0 false none)) lv (1, [cv]) = some (.slice (.new (H.n + 1)) 0 (i + 1) (.gro 1), H7) ∧ Acc H0.n H7 70 1 (i + 1) (cs ++ [cv]) (.slice (.new (H.n + 1)) 0 (i + 1) (.gro 1)) ∧ Keep H0 H7 ∧ HLow H7 ∧ View V7 H7 ∧ St F kw kc V7 bs s d ∧ Priv V7 (.slice (.new (H.n + 1)) 0 (i + 1) (.gro 1)) ∧ Keep V V7 ∧
      (∀ j cs fz t, H.t.get j = some (.row cs 0 fz (some t)) → H7.t.get j = some (.row cs 0 fz (some t))) := by
  have acc5' := acc.push low (ob := .row [cv] 0 false none)
  obtain ⟨H7, happ, acc7, kp7, low7, hn7⟩ := acc5'.one_more (e := 70) (bs := 8) (ys := [cv]) (by simp only [h_n]; have := kp.n; omega) low.push (by decide) rfl (by simp [fcv]) (by omega)
  have kH7 : Keep H0 H7 := acc5'.keeps (kp.pushed low0) low0 kp7
  have st5 := st.push (ob := .row [cv] 0 false none)
  have lowV := st.low
  have pv5 : ∀ j o, blk lv j o → (V.push (.row [cv] 0 false none)).t.get j = none := fun j o hb => by
    have hj : j < H.n := by
      obtain ⟨o', n', c', e⟩ := hb
      exact (acc.below low e).2
    rw [h_get, if_neg (by rw [vw.n]; omega)]
    exact pv j o hb
  obtain ⟨V7, vw7, hnone, hg, hn⟩ := grow_view (N := 0) (i := i) (cells := cs) (c := cv) vw.push pv5 st5.low kp7 hn7
  simp only [h_n] at happ acc7 hnone hn
  have kV : Keep V V7 := by
    have k5 : Keep V (V.push (.row [cv] 0 false none)) := HKeep.push st.low
    refine ⟨by omega, fun j o g hx => by rw [hg]; exact k5.get _ _ g hx, fun _ j o g => ?_⟩
    rw [hg] at g
    have := st5.low _ _ g
    rw [h_n] at this; omega
  refine ⟨H7, V7, happ, acc7, kH7, low7, vw7, st5.same hg (by rw [h_n]; omega), ?_, kV, fun j cs' fz t g => ?_⟩
  · rintro j o ⟨o', n', c', e⟩
    simp only [AV.slice.injEq, Blk.new.injEq] at e
    rw [← e.1]; exact hnone
  · refine acc5'.row (by decide) kp7 ?_
    rw [h_get, if_neg (by have := low _ _ g; omega)]
    exact g
set_option maxHeartbeats 2000000 in
theorem args_loop {P : R → Prop} {F kw kc n : Nat} {bs : List Nat} {s : S} {la : List X} {env : Env} {ev : AV} {KK : Ex → Fr → Heap → R} {fr : Fr} {H : Heap} (hla : la.length ≤ 1000) (hn : la.length < n)
    (e42 : ∀ (i : Nat) (e : X), la[i]? = some e → ∀ F kw kc d V H bs ev s, HLow H → View V H → St F kw kc V bs s d → EnvR V bs env ev → GiveW F kw kc d V H bs (callN P5 n 49 [e.v, ev] H) (argA e env s))
    (st : St F kw kc H bs s 0) (he : EnvR H bs env ev) (r2 : fr 2 = ev) (r8 : fr 8 = .nils) (r49 : fr 49 = AL la) (r50 : fr 50 = .int .i64 la.length) (r51 : fr 51 = .int .i64 (0 : Nat))
    (hend : ∀ fr' H' x lv, St F kw kc H' (bs ++ x) (argsA env la s).2 0 → LisR H' (bs ++ x) (argsA env la s).1 lv → Keep H H' → fr' 8 = lv → fr' 0 = fr 0 → fr' 2 = fr 2 → fr' 4 = fr 4 → fr' 6 = fr 6 → fr' 7 = fr 7 → P (KK (.exit 1) fr' H')) : P (loopR (callN P5 n) n c27_l0 n fr H KK) := by
  have low := st.low
  refine loop_roundsP la.length (fun i fr' H' => ∃ V x lv cs, Acc H.n H' 70 1 i cs lv ∧ PCs (bs ++ x) (argsA env (la.take i) s).1 cs ∧ View V H' ∧ St F kw kc V (bs ++ x) (argsA env (la.take i) s).2 0 ∧ Priv V lv ∧ Keep H V ∧ Keep H H' ∧ HLow H' ∧ fr' 8 = lv ∧ fr' 49 = AL la ∧ fr' 50 = .int .i64 la.length ∧ fr' 51 = .int .i64 i ∧ fr' 0 = fr 0 ∧ fr' 2 = fr 2 ∧ fr' 4 = fr 4 ∧ fr' 6 = fr 6 ∧ fr' 7 = fr 7) ?_ ?_ n 0 fr H (Nat.zero_le _) hn
    ⟨H, [], .nils, [], Acc.nil, trivial, View.refl, by simpa [argsA] using st, (fun j o ⟨_, _, _, e⟩ => by cases e), HKeep.refl, HKeep.refl, low, r8, r49, r50, r51, rfl, rfl, rfl, rfl, rfl⟩
  · rintro i fr' H' K' hi ⟨V, x, lv, cs, acc, hp, vw, st', pv, kV, kp, low', q8, q49, q50, q51, q0, q2, q4, q6, q7⟩ hKe hKr hK
    have hlt : (i : Int) < (la.length : Int) := by omega
    have hw : IntKind.i64.wrap ((i : Int) + 1) = ((i + 1 : Nat) : Int) := wrap_succ (n := 1000) (by omega) (by omega)
    obtain ⟨e, he'⟩ : ∃ e, la[i]? = some e := ⟨la[i], List.getElem?_eq_getElem hi⟩
    have hcall := e42 i e he'
    have htake : la.take (i + 1) = la.take i ++ [e] := by rw [List.take_add_one, he']; rfl
    have hii := iaddr_AL he'
    have hargs := argsA_snoc env e (la.take i) s
    rw [← htake] at hargs
    obtain ⟨ek, et, en, el⟩ := e
    have vwn := vw.n
    have st1 := (st'.push (ob := .row [.int .i64 0, .str [], .nils, .nils] 0 false (some 28))).box (k := H'.n) (t := 28) (by rw [h_get, if_pos vwn.symm]) (by decide) (ob := .row [.int .i64 ek, .str et, vStrs en, vXs el] 0 false (some 28))
    have vw1 := vw.push (ob := .row [.int .i64 0, .str [], .nils, .nils] 0 false (some 28)) |>.put (k := H'.n) (ob := .row [.int .i64 ek, .str et, vStrs en, vXs el] 0 false (some 28))
    have k1 : Keep H' ((H'.push (.row [.int .i64 0, .str [], .nils, .nils] 0 false (some 28))).put H'.n (.row [.int .i64 ek, .str et, vStrs en, vXs el] 0 false (some 28))) := (HKeep.push low').own low' (Nat.le_refl _) (by rw [h_n]; omega)
    have kV1 : Keep V ((V.push (.row [.int .i64 0, .str [], .nils, .nils] 0 false (some 28))).put H'.n (.row [.int .i64 ek, .str et, vStrs en, vXs el] 0 false (some 28))) := (HKeep.push st'.low).own st'.low (by omega) (by rw [h_n]; omega)
    have acc1 := (acc.push low' (ob := .row [.int .i64 0, .str [], .nils, .nils] 0 false (some 28))).put (by decide) (k := H'.n) (cs := [.int .i64 0, .str [], .nils, .nils]) (fz := false) (ty := some 28) (by rw [h_get, if_pos rfl]) (ob := .row [.int .i64 ek, .str et, vStrs en, vXs el] 0 false (some 28))
    have he1 := (he.keep (x := x) kV.stay).stay kV1.stay
    obtain ⟨cv, H5, z1, V5, y, z2, z3, vw5, kV5, kH5, br5⟩ := hcall F kw kc 0 _ _ (bs ++ x) ev _ (k1.low low') vw1 st1 he1
    rw [X.v_mk] at z1
    have fe := he.flat
    have acc5 := acc1.kept kH5 fun j _ hj => quiet (by decide) (by decide)
    have low5 := kH5.low (k1.low low')
    have fcv : cv.flat = true := by obtain ⟨_, _, rfl⟩ := z3; rfl
    have kcv : keepK cv = none := by obtain ⟨_, _, rfl⟩ := z3; rfl
    have pv5 : Priv V5 lv := fun j o hb => by
      have hj : j < H'.n := by
        obtain ⟨o', n', c', e⟩ := hb
        exact (acc.below low' e).2
      refine br5 j (by show j < V.n + 1; omega) ?_
      rw [h_gput, if_neg (by omega), h_get, if_neg (by omega)]
      exact pv j o hb
    have kHH5 := (kp.trans k1).trans kH5
    obtain ⟨H7, V7, happ, acc7, kH7, low7, vw7, st7, pv7, kV7, _⟩ := priv_more acc5 kHH5 low low5 vw5 z2 pv5 fcv (by omega)
    simp -implicitDefEqProofs only [c27_l0, ↓v_lenS, ZZ, Nat.reduceBEq, reduceIte, Nat.reduceAdd, Nat.reduceLeDiff, Nat.reduceEqDiff, Nat.reduceBneDiff, CL, XS, q8, q49, q50, q51, q2, r2, hlt, hii, X.cells_mk, fe, z1, fcv, kcv, k_taken, happ, hw, acc5.flat]
    refine hK _ _ ⟨V7, x ++ y, .slice (.new (H5.n + 1)) 0 (i + 1) (.gro 1), cs ++ [cv], acc7, ?_, vw7, ?_, pv7, ((kV.trans kV1).trans kV5).trans kV7, kH7, low7, ?_, ?_, ?_, ?_, ?_, ?_, ?_, ?_, ?_⟩
    · rw [hargs, ← List.append_assoc]
      exact hp.more.append ⟨z3, trivial⟩
    · rw [hargs, ← List.append_assoc]; exact st7
    all_goals simp -implicitDefEqProofs only [↓v_lenS, ZZ, Nat.reduceBEq, reduceIte, Nat.reduceAdd, Nat.reduceLeDiff, Nat.reduceEqDiff, Nat.reduceBneDiff, q49, q50, q51, q0, q2, q4, q6, q7, r2]
  · rintro fr' H' K' ⟨V, x, lv, cs, acc, hp, vw, st', pv, kV, kp, low', q8, q49, q50, q51, q0, q2, q4, q6, q7⟩ hKe hKr
    have hlt : ¬ (la.length : Int) < (la.length : Int) := by omega
    rw [List.take_length] at hp st'
    simp -implicitDefEqProofs only [c27_l0, ↓v_lenS, ZZ, Nat.reduceBEq, reduceIte, Nat.reduceAdd, Nat.reduceLeDiff, Nat.reduceEqDiff, Nat.reduceBneDiff, CL, XS, q8, q49, q50, q51, hlt, hKe]
    refine hend _ _ x lv (st'.view vw low') (LisR.acc (N := H.n) (cells := cs) (by rw [argsA_len]; exact acc) hp) kp ?_ ?_ ?_ ?_ ?_ ?_ <;> simp -implicitDefEqProofs only [↓v_lenS, ZZ, Nat.reduceBEq, reduceIte, Nat.reduceAdd, Nat.reduceLeDiff, Nat.reduceEqDiff, Nat.reduceBneDiff, q8, q49, q50, q51, q0, q2, q4, q6, q7]
end Go.Lite

/-
  A term's value: what is applied.
-/
namespace Go.Lite
open Go Go.Proofs
theorem Ev.list {α : Type} {p : α → Nat → Prop} : ∀ (l : List α), (∀ x ∈ l, Ev (p x)) → Ev fun n => ∀ (i : Nat) (x : α), l[i]? = some x → p x n
  | [], _ => Ev.of fun n i x h => by simp at h
  | a :: l, h => ((h a (by simp)).and (Ev.list l fun x hx => h x (by simp [hx]))).mono fun n hn i x hx => by
    cases i with
    | zero => simp only [List.getElem?_cons_zero, Option.some.injEq] at hx; subst hx; exact hn.1
    | succ i => exact hn.2 i x (by simpa using hx)
set_option maxHeartbeats 4000000 in
theorem ev7 {F m : Nat} (ih : EvalOk F m) (ihA : ApplyOk F m) (t : Str) (ns : List Str) (f : X) (la : List X) (env : Env) (s : S) (o : O V) (hf : f.tame) (hla : ∀ e ∈ la, e.tame) (hll : la.length ≤ 1000) (h : ((evalA F m f env s.tick).bind fun r => r.bind fun v s => applyA F m v (argsA env la s).1 (argsA env la s).2) = some o) : Ev (BodyOk F 7 t ns (f :: la) env s o) := by
  have hB : Ev fun n => ∀ p, evalA F m f env s.tick = some p → ∀ v s1, p = .val v s1 → ∀ q, applyA F m v (argsA env la s1).1 (argsA env la s1).2 = some q → ∀ kw kc H bs cs lv, St F kw kc H bs (argsA env la s1).2 0 → ValR H bs v cs → LisR H bs (argsA env la s1).1 lv → GiveV F kw kc H bs (callN P5 n 50 [.ptr (.new kw) 0, .agg cs, lv] H) q :=
    Ev.opt fun p hp => Ev.val fun v s1 _ => Ev.opt fun q hq => ihA _ _ _ q hq
  refine Ev.succ (((step40 (F := F)).and ((ih.get f env s.tick hf).and (hB.and ((Ev.list la fun e he => argument42W e env (hla e he)).and (Ev.ge 1002))))).mono fun n hn kw kc H bs ev st he hF => ?_)
  obtain ⟨e40, eA, eB, e42, hn⟩ := hn
  rw [callN_code (P := P5) (sf := c27) rfl (code27 _ _) rfl rfl]
  have p := pre28 [.int .i64 7, .str t, vStrs ns, vXs (f :: la)] st he hF
  have e40 := step_ok e40 p st hF
  obtain ⟨wa, wb, gw⟩ := st.w
  obtain ⟨q, hq, h⟩ := Option.bind_eq_some_iff.1 h
  have hA := eA q hq kw kc _ bs ev (p.st.weak (by omega)) p.env
  obtain ⟨kx, tx, nx, lx⟩ := f
  have i0 : iaddrV 4 (vXs (.mk kx tx nx lx :: la)) 0 = some (.ptr (.val (X.mk kx tx nx lx).cells) 0) := iaddr_vXs rfl
  have hsl := slice_vXs (.mk kx tx nx lx) la
  rw [X.v_mk] at hA
  cases q with
  | stop kk tt s' =>
    obtain rfl := (Option.some.inj h).symm
    obtain ⟨H', q1, q2, q3⟩ := hA
    simp -implicitDefEqProofs only [c27, ↓v_lenS, ZZ, Nat.reduceBEq, reduceIte, Nat.reduceAdd, Nat.reduceLeDiff, Nat.reduceEqDiff, Nat.reduceBneDiff, CL, XS, gw, p.nw, p.nw1, e40, p.g0, Int.reduceBEq, Int.reduceLE, Int.reduceToNat, i0, X.cells_mk, q1]
    exact ⟨H', rfl, q2, p.kp.trans q3⟩
  | val v s1 =>
    have h : applyA F m v (argsA env la s1).1 (argsA env la s1).2 = some o := h
    obtain ⟨cs, H', x, q1, q2, q3, q4⟩ := hA
    obtain ⟨ty, c2, c3, c4, c5, c6, c7, c8, c9, rfl, hty, _, _, ⟨f2, f3, f4, f5⟩, ⟨f6, f7, f8, f9⟩⟩ := q2.ten
    have k4 := p.kp.trans q4
    have st5 := (q3.push (ob := .row [AV.int .i64 0, .str [], .nilp, .nilp, .int .i64 0, .str [], .nils, .nils, .nilp, .nils] 0 false (some 75))).box (k := H'.n) (t := 75) (by rw [h_get, if_pos rfl]) (by decide) (ob := .row [.int .i64 v.kind, .str ty, c2, c3, c4, c5, c6, c7, c8, c9] 0 false (some 75))
    have k5 : Keep H' ((H'.push (.row [AV.int .i64 0, .str [], .nilp, .nilp, .int .i64 0, .str [], .nils, .nils, .nilp, .nils] 0 false (some 75))).put H'.n (.row [.int .i64 v.kind, .str ty, c2, c3, c4, c5, c6, c7, c8, c9] 0 false (some 75))) := (HKeep.push q3.low).own q3.low (Nat.le_refl _) (by rw [h_n]; omega)
    have he5 := (he.keep (x := x) k4.stay).stay k5.stay
    have g0' := q4.get _ _ p.g0 (quiet (by decide) (by decide))
    have l0 := q3.low.lt g0'
    have n0 : ¬ H.n = H'.n := by omega
    have n1 : ¬ H'.n = H.n := by omega
    have g1 := k5.get _ _ (q4.get _ _ p.g1 (quiet (by decide) (by decide))) (quiet (by decide) (by decide))
    have g7 : ((H'.push (.row [AV.int .i64 0, .str [], .nilp, .nilp, .int .i64 0, .str [], .nils, .nils, .nilp, .nils] 0 false (some 75))).put H'.n (.row [.int .i64 v.kind, .str ty, c2, c3, c4, c5, c6, c7, c8, c9] 0 false (some 75))).t.get H'.n = some (.row [.int .i64 v.kind, .str ty, c2, c3, c4, c5, c6, c7, c8, c9] 0 false (some 75)) := by rw [h_gput, if_pos rfl]
    simp -implicitDefEqProofs only [c27, ↓v_lenS, ZZ, Nat.reduceBEq, reduceIte, Nat.reduceAdd, Nat.reduceLeDiff, Nat.reduceEqDiff, Nat.reduceBneDiff, CL, XS, gw, p.nw, p.nw1, e40, p.g0, Int.reduceBEq, Int.reduceLE, Int.reduceToNat, i0, X.cells_mk, q1, f2, f3, f4, f5, f6, f7, f8, f9, g0', n0, n1, hsl, len_AL]
    refine args_loop (F := F) (kw := kw) (kc := kc) (s := s1) (P := fun r => GiveV F kw kc H bs r o) hll (by omega) e42 st5 he5 rfl rfl rfl rfl (by simp -implicitDefEqProofs only [↓v_lenS, ZZ, Nat.reduceBEq, reduceIte, Nat.reduceAdd, Nat.reduceLeDiff, Nat.reduceEqDiff, Nat.reduceBneDiff]; rfl) ?_
    intro fr' H6 y lv st6 lis6 k6 r8 r0 r2 r4 r6 r7
    simp -implicitDefEqProofs only [↓v_lenS, ZZ, Nat.reduceBEq, reduceIte, Nat.reduceAdd, Nat.reduceLeDiff, Nat.reduceEqDiff, Nat.reduceBneDiff] at r0 r2 r4 r6 r7
    have g16 := k6.get _ _ g1 (quiet (by decide) (by decide))
    have g76 := k6.get _ _ g7 (quiet (by decide) (by decide))
    have hg := (eB _ hq v s1 rfl o h kw kc H6 ((bs ++ x) ++ y) _ lv st6 (q2.stay k5.stay |>.keep (x := y) k6.stay) lis6).more.more
    have fl := lis6.flat
    simp -implicitDefEqProofs only [↓v_lenS, ZZ, Nat.reduceBEq, reduceIte, Nat.reduceAdd, Nat.reduceLeDiff, Nat.reduceEqDiff, Nat.reduceBneDiff, CL, r0, r7, r8, g76, f2, f3, f4, f5, f6, f7, f8, f9, fl]
    refine tail_store (k := H.n + 1) hg ((k4.trans k5).trans k6) st.low (by omega) g16 rfl r6 (by decide) ?_
    intro fr' H' cs hb hk hl
    simp -implicitDefEqProofs only [↓v_lenS, ZZ, Nat.reduceBEq, reduceIte, Nat.reduceAdd, Nat.reduceLeDiff, Nat.reduceEqDiff, Nat.reduceBneDiff, hb, hk, hl, List.take_of_length_le (Nat.le_of_eq hl)]
/-! ### Lets -/
theorem letEnv_snoc (n : Str) : ∀ (ns : List Str) (i : Nat) (env : Env), letEnv (ns ++ [n]) i env = (n, i + ns.length) :: letEnv ns i env
  | [], i, env => rfl
  | a :: ns, i, env => by
    rw [List.cons_append, letEnv, letEnv_snoc n ns, letEnv]
    simp only [List.length_cons]
    congr 2; omega
theorem more_new (s : S) (cs : List C) (c : C) : ((s.more cs).new c).2 = s.more (cs ++ [c]) := by
  simp [S.more, S.new]
theorem more_nil (s : S) : s.more [] = s := by simp [S.more]
set_option maxHeartbeats 4000000 in
theorem let_loop1 {P : R → Prop} {F kw kc n ke : Nat} {bs : List Nat} {s : S} {ek : Int} {et : Str} {ns : List Str} {l : List X} {env : Env} {ev : AV} {KK : Ex → Fr → Heap → R} {fr : Fr} {H : Heap} (hns : ns.length ≤ 1000) (hl : ns.length < l.length) (ht : X.tames l) (hn : ns.length < n)
    (st : St F kw kc H bs s 0) (he : EnvR H bs env ev) (ge : H.t.get ke = some (.row [.int .i64 ek, .str et, vStrs ns, vXs l] 0 false (some 28))) (r4 : fr 4 = .ptr (.new ke) 0) (r2 : fr 2 = ev) (r13 : fr 13 = .nils) (r103 : fr 103 = vStrs ns) (r104 : fr 104 = .int .i64 ns.length) (r105 : fr 105 = .int .i64 (0 : Nat))
    (hend : ∀ fr' H' x lv ev', St F kw kc H' (bs ++ x) (s.more ((l.take ns.length).map fun e => C.wait e [])) 0 → LisR H' (bs ++ x) (List.range' s.cells.length ns.length) lv → EnvR H' (bs ++ x) (letEnv ns s.cells.length env) ev' → Keep H H' → fr' 13 = lv → fr' 2 = ev' → fr' 0 = fr 0 → fr' 4 = fr 4 → fr' 6 = fr 6 → fr' 12 = fr 12 → P (KK (.exit 3) fr' H')) : P (loopR (callN P5 n) n c27_l1 n fr H KK) := by
  have low := st.low
  refine loop_roundsP ns.length (fun i fr' H' => ∃ V x lv cs ev', Acc H.n H' 70 1 i cs lv ∧ PCs (bs ++ x) (List.range' s.cells.length i) cs ∧ View V H' ∧ St F kw kc V (bs ++ x) (s.more ((l.take i).map fun e => C.wait e [])) 0 ∧ EnvR V (bs ++ x) (letEnv (ns.take i) s.cells.length env) ev' ∧ Priv V lv ∧ Keep H V ∧ Keep H H' ∧ HLow H' ∧ fr' 13 = lv ∧ fr' 2 = ev' ∧ fr' 103 = vStrs ns ∧ fr' 104 = .int .i64 ns.length ∧ fr' 105 = .int .i64 i ∧ fr' 0 = fr 0 ∧ fr' 4 = fr 4 ∧ fr' 6 = fr 6 ∧ fr' 12 = fr 12) ?_ ?_ n 0 fr H (Nat.zero_le _) hn
    ⟨H, [], .nils, [], ev, Acc.nil, trivial, View.refl, by simpa [more_nil] using st, by simpa [letEnv] using he, (fun j o ⟨_, _, _, e⟩ => by cases e), HKeep.refl, HKeep.refl, low, r13, r2, r103, r104, r105, rfl, rfl, rfl, rfl⟩
  · rintro i fr' H' K' hi ⟨V, x, lv, cs, ev', acc, hp, vw, st', he', pv, kV, kp, low', q13, q2, q103, q104, q105, q0, q4, q6, q12⟩ hKe hKr hK
    have hlt : (i : Int) < (ns.length : Int) := by omega
    have hw : IntKind.i64.wrap ((i : Int) + 1) = ((i + 1 : Nat) : Int) := wrap_succ (n := 1000) (by omega) (by omega)
    obtain ⟨nm, hnm⟩ : ∃ e, ns[i]? = some e := ⟨ns[i], List.getElem?_eq_getElem hi⟩
    obtain ⟨e, hel⟩ : ∃ e, l[i]? = some e := ⟨l[i]'(by omega), List.getElem?_eq_getElem (by omega)⟩
    have hte := (X.tames_iff l).1 ht e (List.mem_of_getElem? hel)
    have htn : ns.take (i + 1) = ns.take i ++ [nm] := by rw [List.take_add_one, hnm]; rfl
    have htl : l.take (i + 1) = l.take i ++ [e] := by rw [List.take_add_one, hel]; rfl
    have hnl : (ns.take i).length = i := by rw [List.length_take]; omega
    have hll : (l.take i).length = i := by rw [List.length_take]; omega
    have hii := iaddr_vXs hel
    have hin := iaddr_vStrs hnm
    have ge' := kp.get _ _ ge (quiet (by decide) (by decide))
    obtain ⟨gk, gt, gn, ga⟩ := e
    have vwn := vw.n
    have nke : ¬ ke = H'.n := by have := low'.lt ge'; omega
    have fe' := he'.flat
    -- the cell
    have hcell : CellR V (bs ++ x) (.wait (.mk gk gt gn ga) []) [.int .i64 0, .str [], .nilp, .nilp, .int .i64 0, .str [], .nils, .nils, .nilp, .nils, .int .i64 gk, .str gt, vStrs gn, vXs ga, .nilp, .bool false, .bool false] := ⟨.nilp, rfl, hte, .nil⟩
    have st1 := st'.new hcell
    have vw1 := vw.push (ob := .row [.int .i64 0, .str [], .nilp, .nilp, .int .i64 0, .str [], .nils, .nils, .nilp, .nils, .int .i64 gk, .str gt, vStrs gn, vXs ga, .nilp, .bool false, .bool false] 0 false (some 110))
    have k1 : Keep H' (H'.push (.row [.int .i64 0, .str [], .nilp, .nilp, .int .i64 0, .str [], .nils, .nils, .nilp, .nils, .int .i64 gk, .str gt, vStrs gn, vXs ga, .nilp, .bool false, .bool false] 0 false (some 110))) := HKeep.push low'
    have kV1 : Keep V (V.push (.row [.int .i64 0, .str [], .nilp, .nilp, .int .i64 0, .str [], .nils, .nils, .nilp, .nils, .int .i64 gk, .str gt, vStrs gn, vXs ga, .nilp, .bool false, .bool false] 0 false (some 110))) := HKeep.push st'.low
    have acc1 := acc.push low' (ob := .row [.int .i64 0, .str [], .nilp, .nilp, .int .i64 0, .str [], .nils, .nils, .nilp, .nils, .int .i64 gk, .str gt, vStrs gn, vXs ga, .nilp, .bool false, .bool false] 0 false (some 110))
    have pv1 : Priv (V.push (.row [.int .i64 0, .str [], .nilp, .nilp, .int .i64 0, .str [], .nils, .nils, .nilp, .nils, .int .i64 gk, .str gt, vStrs gn, vXs ga, .nilp, .bool false, .bool false] 0 false (some 110))) lv := fun j o hb => by
      have hj : j < H'.n := by
        obtain ⟨o', n', c', e⟩ := hb
        exact (acc.below low' e).2
      rw [h_get, if_neg (by omega)]
      exact pv j o hb
    obtain ⟨H7, V7, happ, acc7, kH7, low7, vw7, st7, pv7, kV7, hrow7⟩ := priv_more (cv := .ptr (.new H'.n) 0) acc1 (kp.trans k1) low low'.push vw1 st1 pv1 rfl (by omega)
    have kcv : keepK (.ptr (.new H'.n) 0) = none := rfl
    have ge7 := hrow7 _ _ _ _ (k1.get _ _ ge' (quiet (by decide) (by decide)))
    have hlc : cs.length = i := by rw [hp.len, List.length_range']
    have hp' : PCs ((bs ++ x) ++ [V.n]) (List.range' s.cells.length (i + 1)) (cs ++ [.ptr (.new H'.n) 0]) := by
      rw [List.range'_1_concat]
      refine hp.more.append ⟨?_, trivial⟩
      have e : s.cells.length + i = (bs ++ x).length := by rw [st'.len]; simp only [S.more, List.length_append, List.length_map, hll]
      rw [e, ← vwn]; exact PC.new
    have g7 : H7.t.get (H'.n + 1 + 1) = some (.row (cs ++ [.ptr (.new H'.n) 0]) 1 false (some 70)) := by
      rcases acc7 with ⟨e, _⟩ | ⟨_, _, k, e, _, g⟩
      · omega
      · simp only [AV.slice.injEq, Blk.new.injEq, h_n] at e
        rw [e.1]; exact g
    have hat : (cs ++ [AV.ptr (.new H'.n) 0])[i * 1]? = some (.ptr (.new H'.n) 0) := by
      rw [Nat.mul_one, List.getElem?_append_right (by omega), hlc, Nat.sub_self]; rfl
    have hii1 : i < i + 1 := by omega
    simp only [h_n] at happ acc7 pv7
    simp -implicitDefEqProofs only [c27_l1, ↓v_lenS, ZZ, Nat.reduceBEq, reduceIte, Nat.reduceAdd, Nat.reduceLeDiff, Nat.reduceEqDiff, Nat.reduceBneDiff, CL, XS, q13, q2, q103, q104, q105, q4, r4, hlt, hii, hin, X.cells_mk, fe', kcv, k_taken, happ, hw, acc1.flat, ge', nke, ge7, hii1, g7, hat]
    have hstM : ((s.more ((l.take i).map fun e => C.wait e [])).new (.wait (.mk gk gt gn ga) [])).2 = s.more ((l.take (i + 1)).map fun e => C.wait e []) := by
      rw [more_new, htl, List.map_append]; rfl
    rw [hstM] at st7
    have k8 : Keep V7 (V7.push (.row [.str nm, .ptr (.new H'.n) 0, ev'] 0 false (some 80))) := HKeep.push st7.low
    have henv : EnvR V7 ((bs ++ x) ++ [V.n]) (letEnv (ns.take i) s.cells.length env) ev' := (he'.stay kV1.stay).keep (x := [V.n]) kV7.stay
    refine hK _ _ ⟨V7.push (.row [.str nm, .ptr (.new H'.n) 0, ev'] 0 false (some 80)), x ++ [V.n], .slice (.new (H'.n + 1 + 1)) 0 (i + 1) (.gro 1), cs ++ [.ptr (.new H'.n) 0], .ptr (.new H7.n) 0, acc7.push low7, ?_, vw7.push, ?_, ?_, ?_, ((kV.trans kV1).trans kV7).trans k8, kH7.pushed low, low7.push, ?_, ?_, ?_, ?_, ?_, ?_, ?_, ?_, ?_⟩
    · rw [← List.append_assoc]; exact hp'
    · rw [← List.append_assoc]; exact st7.push
    · rw [htn, letEnv_snoc, hnl, ← List.append_assoc]
      have hc : PC ((bs ++ x) ++ [V.n]) (s.cells.length + i) (.ptr (.new H'.n) 0) := by
        have e : s.cells.length + i = (bs ++ x).length := by rw [st'.len]; simp only [S.more, List.length_append, List.length_map, hll]
        rw [e, ← vwn]; exact PC.new
      exact .cons (by rw [h_get, if_pos vw7.n.symm]) hc (henv.stay k8.stay)
    · rintro j o ⟨o', n', c', e⟩
      have hj : j < H7.n := (acc7.below low7 e).2
      rw [h_get, if_neg (by rw [vw7.n]; omega)]
      exact pv7 j o ⟨o', n', c', e⟩
    all_goals simp -implicitDefEqProofs only [↓v_lenS, ZZ, Nat.reduceBEq, reduceIte, Nat.reduceAdd, Nat.reduceLeDiff, Nat.reduceEqDiff, Nat.reduceBneDiff, q13, q2, q103, q104, q105, q0, q4, q6, q12, r4]
  · rintro fr' H' K' ⟨V, x, lv, cs, ev', acc, hp, vw, st', he', pv, kV, kp, low', q13, q2, q103, q104, q105, q0, q4, q6, q12⟩ hKe hKr
    have hlt : ¬ (ns.length : Int) < (ns.length : Int) := by omega
    rw [List.take_length] at he'
    simp -implicitDefEqProofs only [c27_l1, ↓v_lenS, ZZ, Nat.reduceBEq, reduceIte, Nat.reduceAdd, Nat.reduceLeDiff, Nat.reduceEqDiff, Nat.reduceBneDiff, CL, XS, q13, q2, q103, q104, q105, hlt, hKe]
    have hlis : LisR H' (bs ++ x) (List.range' s.cells.length ns.length) lv := LisR.acc (N := H.n) (cells := cs) (by rw [List.length_range']; exact acc) hp
    refine hend _ _ x lv ev' (st'.view vw low') hlis (he'.stay vw.stay) kp ?_ ?_ ?_ ?_ ?_ ?_
    · exact q13
    · exact q2
    · exact q0
    · exact q4
    · exact q6
    · exact q12
set_option maxHeartbeats 4000000 in
theorem let_loop2 {P : R → Prop} {F kw kc n : Nat} {bs : List Nat} {s : S} {ns : List Str} {l : List X} {env : Env} {ev lv : AV} {KK : Ex → Fr → Heap → R} {fr : Fr} {H : Heap} (hns : ns.length ≤ 1000) (hl : ns.length < l.length) (ht : X.tames l) (hn : ns.length < n)
    (st : St F kw kc H bs (s.more ((l.take ns.length).map fun e => C.wait e [])) 0) (he : EnvR H bs env ev) (lis : LisR H bs (List.range' s.cells.length ns.length) lv) (r2 : fr 2 = ev) (r129 : fr 129 = lv) (r130 : fr 130 = .int .i64 ns.length) (r131 : fr 131 = .int .i64 (0 : Nat))
    (hend : ∀ fr' H', St F kw kc H' bs (s.more ((l.take ns.length).map fun e => C.wait e env)) 0 → Keep H H' → fr' 2 = ev → fr' 0 = fr 0 → fr' 4 = fr 4 → fr' 6 = fr 6 → fr' 12 = fr 12 → P (KK (.exit 5) fr' H')) : P (loopR (callN P5 n) n c27_l2 n fr H KK) := by
  have low := st.low
  have hlen : (l.take ns.length).length = ns.length := by rw [List.length_take]; omega
  refine loop_roundsP ns.length (fun i fr' H' => St F kw kc H' bs (s.more ((((l.take ns.length).take i).map fun e => C.wait e env) ++ ((l.take ns.length).drop i).map fun e => C.wait e [])) 0 ∧ Keep H H' ∧ fr' 2 = ev ∧ fr' 129 = lv ∧ fr' 130 = .int .i64 ns.length ∧ fr' 131 = .int .i64 i ∧ fr' 0 = fr 0 ∧ fr' 4 = fr 4 ∧ fr' 6 = fr 6 ∧ fr' 12 = fr 12) ?_ ?_ n 0 fr H (Nat.zero_le _) hn
    ⟨by simpa using st, HKeep.refl, r2, r129, r130, r131, rfl, rfl, rfl, rfl⟩
  · rintro i fr' H' K' hi ⟨st', kp, q2, q129, q130, q131, q0, q4, q6, q12⟩ hKe hKr hK
    have hlt : (i : Int) < (ns.length : Int) := by omega
    have hw : IntKind.i64.wrap ((i : Int) + 1) = ((i + 1 : Nat) : Int) := wrap_succ (n := 1000) (by omega) (by omega)
    obtain ⟨e, hel⟩ : ∃ e, (l.take ns.length)[i]? = some e := ⟨(l.take ns.length)[i]'(by omega), List.getElem?_eq_getElem (by omega)⟩
    have hte : e.tame := (X.tames_iff l).1 ht e (List.mem_of_mem_take (List.mem_of_getElem? hel))
    have hr : (List.range' s.cells.length ns.length)[i]? = some (s.cells.length + i) := by rw [List.getElem?_range' hi]; simp
    obtain ⟨b, q, cells, c, a1, a2, a3, b', hb', rfl⟩ := (lis.stay kp.stay).at hr
    have hidx : (s.more ((((l.take ns.length).take i).map fun e => C.wait e env) ++ ((l.take ns.length).drop i).map fun e => C.wait e [])).cells[s.cells.length + i]? = some (C.wait e []) := by
      simp only [S.more]
      rw [List.getElem?_append_right (by omega), List.getElem?_append_right (by simp only [List.length_map, List.length_take]; omega)]
      simp only [List.length_map, List.length_take, hlen, Nat.min_eq_left (Nat.le_of_lt hi), Nat.add_sub_cancel_left, Nat.sub_self]
      rw [List.getElem?_map, List.getElem?_drop, Nat.add_zero, hel]; rfl
    obtain ⟨cs, gb, hcr⟩ := st'.cells _ _ _ hb' hidx
    obtain ⟨gk, gt, gn, ga⟩ := e
    obtain ⟨ev0, rfl, _, _⟩ := hcr
    have fe := he.flat
    have he' := he.stay kp.stay
    simp -implicitDefEqProofs only [c27_l2, ↓v_lenS, ZZ, Nat.reduceBEq, reduceIte, Nat.reduceAdd, Nat.reduceLeDiff, Nat.reduceEqDiff, Nat.reduceBneDiff, CL, XS, q2, q129, q130, q131, hlt, a1, a2, a3, hw, gb, fe]
    have hset : (s.more ((((l.take ns.length).take i).map fun e => C.wait e env) ++ ((l.take ns.length).drop i).map fun e => C.wait e [])).set (s.cells.length + i) (.wait (.mk gk gt gn ga) env) = s.more ((((l.take ns.length).take (i + 1)).map fun e => C.wait e env) ++ ((l.take ns.length).drop (i + 1)).map fun e => C.wait e []) := by
      have hd : (l.take ns.length).drop i = .mk gk gt gn ga :: (l.take ns.length).drop (i + 1) := by
        have hil : i < (l.take ns.length).length := by omega
        rw [List.drop_eq_getElem_cons hil]
        congr 1
        rw [List.getElem?_eq_getElem hil] at hel
        exact Option.some.inj hel
      have htk : (l.take ns.length).take (i + 1) = (l.take ns.length).take i ++ [.mk gk gt gn ga] := by rw [List.take_add_one, hel]; rfl
      simp only [S.more, S.set, S.mk.injEq, and_true]
      rw [hd, htk, List.set_append_right _ _ (by omega), List.map_append, List.map_cons, List.append_assoc, Nat.add_sub_cancel_left, List.set_append_right _ _ (by simp only [List.length_map, List.length_take]; omega)]
      simp only [List.length_map, List.length_take, hlen, Nat.min_eq_left (Nat.le_of_lt hi), Nat.sub_self]
      rfl
    have st2 := st'.set (c := .wait (.mk gk gt gn ga) env) hb' (cs := [.int .i64 0, .str [], .nilp, .nilp, .int .i64 0, .str [], .nils, .nils, .nilp, .nils, .int .i64 gk, .str gt, vStrs gn, vXs ga, ev, .bool false, .bool false]) ⟨ev, rfl, hte, he'⟩
    rw [hset] at st2
    refine hK _ _ ⟨st2, kp.trans (Keep.cell gb (.inl rfl) st'.low), ?_, ?_, ?_, ?_, ?_, ?_, ?_, ?_⟩
    all_goals simp -implicitDefEqProofs only [↓v_lenS, ZZ, Nat.reduceBEq, reduceIte, Nat.reduceAdd, Nat.reduceLeDiff, Nat.reduceEqDiff, Nat.reduceBneDiff, q2, q129, q130, q131, q0, q4, q6, q12]
  · rintro fr' H' K' ⟨st', kp, q2, q129, q130, q131, q0, q4, q6, q12⟩ hKe hKr
    have hlt : ¬ (ns.length : Int) < (ns.length : Int) := by omega
    rw [List.take_of_length_le (Nat.le_of_eq hlen), List.drop_eq_nil_of_le (Nat.le_of_eq hlen), List.map_nil, List.append_nil] at st'
    simp -implicitDefEqProofs only [c27_l2, ↓v_lenS, ZZ, Nat.reduceBEq, reduceIte, Nat.reduceAdd, Nat.reduceLeDiff, Nat.reduceEqDiff, Nat.reduceBneDiff, CL, XS, q2, q129, q130, q131, hlt, hKe]
    refine hend _ _ st' kp ?_ ?_ ?_ ?_ ?_ <;> simp -implicitDefEqProofs only [↓v_lenS, ZZ, Nat.reduceBEq, reduceIte, Nat.reduceAdd, Nat.reduceLeDiff, Nat.reduceEqDiff, Nat.reduceBneDiff, q2, q0, q4, q6, q12]
end Go.Lite

/-
  A term's value, whole: eval, force, apply come to what the machine comes to.
-/
namespace Go.Lite
open Go Go.Proofs
set_option maxHeartbeats 4000000 in
theorem ev9 {F m : Nat} (ih : EvalOk F m) (t : Str) (ns : List Str) (l : List X) (b : X) (env : Env) (s : S) (o : O V) (hns : ns.length ≤ 1000) (hb : l[ns.length]? = some b) (ht : X.tames l) (h : evalA F m b (letEnv ns s.cells.length env) (s.tick.more ((l.take ns.length).map fun e => C.wait e (letEnv ns s.cells.length env))) = some o) : Ev (BodyOk F 9 t ns l env s o) := by
  have hbt := (X.tames_iff l).1 ht b (List.mem_of_getElem? hb)
  have hl : ns.length < l.length := (List.getElem?_eq_some_iff.1 hb).1
  refine Ev.succ (((step40 (F := F)).and ((ih b _ _ o hbt h).and (Ev.ge 1002))).mono fun n hn kw kc H bs ev st he hF => ?_)
  obtain ⟨e40, eB, hn⟩ := hn
  rw [callN_code (P := P5) (sf := c27) rfl (code27 _ _) rfl rfl]
  have p := pre28 [.int .i64 9, .str t, vStrs ns, vXs l] st he hF
  have e40 := step_ok e40 p st hF
  obtain ⟨wa, wb, gw⟩ := st.w
  simp -implicitDefEqProofs only [c27, ↓v_lenS, ZZ, Nat.reduceBEq, reduceIte, Nat.reduceAdd, Nat.reduceLeDiff, Nat.reduceEqDiff, Nat.reduceBneDiff, CL, XS, gw, p.nw, p.nw1, e40, p.g0, Int.reduceBEq]
  refine let_loop1 (F := F) (kw := kw) (kc := kc) (s := s.tick) (P := fun r => GiveV F kw kc H bs r o) hns hl ht (by omega) p.st p.env p.g0 rfl rfl rfl rfl rfl (by simp -implicitDefEqProofs only [↓v_lenS, ZZ, Nat.reduceBEq, reduceIte, Nat.reduceAdd, Nat.reduceLeDiff, Nat.reduceEqDiff, Nat.reduceBneDiff]; rfl) ?_
  intro fr' H' x lv ev' st' lis' he' k' r13 r2 r0 r4 r6 r12
  simp -implicitDefEqProofs only [↓v_lenS, ZZ, Nat.reduceBEq, reduceIte, Nat.reduceAdd, Nat.reduceLeDiff, Nat.reduceEqDiff, Nat.reduceBneDiff] at r0 r4 r6 r12
  have hlen := lis'.len
  rw [List.length_range'] at hlen
  simp -implicitDefEqProofs only [↓v_lenS, ZZ, Nat.reduceBEq, reduceIte, Nat.reduceAdd, Nat.reduceLeDiff, Nat.reduceEqDiff, Nat.reduceBneDiff, CL, r13, hlen]
  refine let_loop2 (F := F) (kw := kw) (kc := kc) (s := s.tick) (P := fun r => GiveV F kw kc H bs r o) hns hl ht (by omega) st' he' lis' r2 rfl rfl (by simp -implicitDefEqProofs only [↓v_lenS, ZZ, Nat.reduceBEq, reduceIte, Nat.reduceAdd, Nat.reduceLeDiff, Nat.reduceEqDiff, Nat.reduceBneDiff]; rfl) ?_
  intro fr2 H2 st2 k2 q2 q0 q4 q6 q12
  simp -implicitDefEqProofs only [↓v_lenS, ZZ, Nat.reduceBEq, reduceIte, Nat.reduceAdd, Nat.reduceLeDiff, Nat.reduceEqDiff, Nat.reduceBneDiff, r0, r4, r6, r12] at q0 q4 q6 q12
  have kk := (p.kp.trans k').trans k2
  have g0 := (k'.trans k2).get _ _ p.g0 (quiet (by decide) (by decide))
  have g1 := (k'.trans k2).get _ _ p.g1 (quiet (by decide) (by decide))
  have hg := (eB kw kc H2 (bs ++ x) ev' (st2.weak (by omega)) (he'.stay k2.stay)).more
  obtain ⟨kb, tb, nb, lb⟩ := b
  have ib : iaddrV 4 (vXs l) ns.length = some (.ptr (.val (X.mk kb tb nb lb).cells) 0) := iaddr_vXs hb
  rw [X.v_mk] at hg
  simp -implicitDefEqProofs only [↓v_lenS, ZZ, Nat.reduceBEq, reduceIte, Nat.reduceAdd, Nat.reduceLeDiff, Nat.reduceEqDiff, Nat.reduceBneDiff, CL, XS, q0, q2, q4, q6, q12, g0, ib, X.cells_mk]
  refine tail_store (k := H.n + 1) hg kk st.low (by omega) g1 rfl q6 (by decide) ?_
  intro fr' H' cs hb hk hl
  simp -implicitDefEqProofs only [↓v_lenS, ZZ, Nat.reduceBEq, reduceIte, Nat.reduceAdd, Nat.reduceLeDiff, Nat.reduceEqDiff, Nat.reduceBneDiff, hb, hk, hl, List.take_of_length_le (Nat.le_of_eq hl)]
theorem ev_stop {F : Nat} (k : Int) (t : Str) (ns : List Str) (l : List X) (env : Env) (s : S) : Ev fun n => ∀ kw kc H bs ev, St F kw kc H bs s 1 → EnvR H bs env ev → s.steps + 1 > F →
    GiveV F kw kc H bs (callN P5 n 27 [.ptr (.new kw) 0, .agg [.int .i64 k, .str t, vStrs ns, vXs l], ev] H) (.stop 6 [] s.tick) := by
  refine Ev.succ ((step40 (F := F)).mono fun n e40 kw kc H bs ev st he hF => ?_)
  rw [callN_code (P := P5) (sf := c27) rfl (code27 _ _) rfl rfl]
  have st2 := (st.push (ob := .row [.int .i64 k, .str t, vStrs ns, vXs l] 0 false (some 28))).push (ob := .row [AV.int .i64 0, .str [], .nilp, .nilp, .int .i64 0, .str [], .nils, .nils, .nilp, .nils] 0 false (some 75))
  have k2 : Keep H _ := (HKeep.push st.low (ob := .row [.int .i64 k, .str t, vStrs ns, vXs l] 0 false (some 28))).pushed st.low (ob := .row [AV.int .i64 0, .str [], .nilp, .nilp, .int .i64 0, .str [], .nils, .nils, .nilp, .nils] 0 false (some 75))
  have e40 := e40 kc s.steps s.uses _ st.steps st.small st2.c
  rw [if_pos hF] at e40
  obtain ⟨wa, wb, gw⟩ := st.w
  have lw := st.low.lt gw
  have nw : ¬ kw = H.n := by omega
  have nw1 : ¬ kw = H.n + 1 := by omega
  simp -implicitDefEqProofs only [c27, ↓v_lenS, ZZ, Nat.reduceBEq, reduceIte, Nat.reduceAdd, Nat.reduceLeDiff, Nat.reduceEqDiff, Nat.reduceBneDiff, CL, XS, gw, nw, nw1, e40]
  refine ⟨_, rfl, ⟨st2.low.put (st2.low.lt st2.c), ?_⟩, k2.trans (Keep.cell st2.c (.inr rfl) st2.low)⟩
  rw [h_gput, if_pos rfl]; rfl
theorem eval28 {F m : Nat} (ih : EvalOk F m) (ihF : ForceOk F m) (ihA : ApplyOk F m) : EvalOk F (m + 1) := by
  rintro ⟨k, t, ns, l⟩ env s o ht h
  rw [evalA_s] at h
  by_cases hF : s.tick.steps > F
  · rw [if_pos hF] at h
    obtain rfl := Option.some.inj h
    refine Ev.mono (ev_stop (F := F) k t ns l env s) fun n hn => ?_
    intro kw kc H bs ev st he
    rw [X.v_mk]
    exact hn kw kc H bs ev st he hF
  rw [if_neg hF] at h
  suffices Ev (BodyOk F k t ns l env s o) from this.mono fun n hn kw kc H bs ev st he => by
    rw [X.v_mk]; exact hn kw kc H bs ev st he hF
  rw [X.tame] at ht
  obtain ⟨ht0, ht1, ht2, ht3⟩ := ht
  have hts := (X.tames_iff l).1 ht3
  unfold evalF at h
  by_cases h5 : k = 5
  · subst h5
    rw [if_pos rfl] at h
    exact ev5 ihF t ns l env s o h
  rw [if_neg h5] at h
  by_cases h6 : k = 6
  · subst h6
    rw [if_pos rfl] at h
    obtain rfl := Option.some.inj h
    exact ev6 t ns l env s (by rw [X.tame]; exact ⟨ht0, ht1, ht2, ht3⟩)
  rw [if_neg h6] at h
  by_cases h7 : k = 7
  · subst h7
    rw [if_pos rfl] at h
    cases l with
    | nil => simp at h
    | cons f la => exact ev7 ih ihA t ns f la env s o (hts f (by simp)) (fun e he => hts e (by simp [he])) (by simp at ht2; omega) h
  rw [if_neg h7] at h
  by_cases h8 : k = 8
  · subst h8
    rw [if_pos rfl] at h
    rcases l with _ | ⟨c, _ | ⟨a, _ | ⟨b, _ | ⟨d, l⟩⟩⟩⟩
    all_goals first
      | (simp at h; done)
      | exact ev8 ih t ns c a b env s o (hts c (by simp)) (hts a (by simp)) (hts b (by simp)) h
  rw [if_neg h8] at h
  by_cases h9 : k = 9
  · subst h9
    rw [if_pos rfl] at h
    cases hb : l[ns.length]? with
    | none => rw [hb] at h; simp at h
    | some b =>
      rw [hb] at h
      exact ev9 ih t ns l b env s o ht1 hb ht3 h
  rw [if_neg h9] at h
  by_cases h10 : k = 10
  · subst h10
    rw [if_pos rfl] at h
    rcases l with _ | ⟨a, _ | ⟨b, _ | ⟨c, l⟩⟩⟩
    · simp at h
    · exact ev10a ih ihF t ns a env s o (hts a (by simp)) h
    · exact ev10b ih t ns a b env s o (hts a (by simp)) (hts b (by simp)) h
    · simp at h
  rw [if_neg h10] at h
  obtain rfl := Option.some.inj h
  exact evc k t ns l env s ⟨h5, h6, h7, h8, h9, h10⟩ ht0
theorem machine_ok (F : Nat) : ∀ m, EvalOk F m ∧ ForceOk F m ∧ ApplyOk F m := by
  have key : ∀ m, (∀ k, k < m + 1 → EvalOk F k) ∧ EvalOk F m ∧ ForceOk F m ∧ ApplyOk F m := by
    intro m
    induction m with
    | zero =>
      have e0 : EvalOk F 0 := fun e env s o _ h => by simp [evalA] at h
      have f0 : ForceOk F 0 := fun c s o h => by simp [forceA] at h
      exact ⟨(by
        intro k hk
        obtain rfl : k = 0 := by omega
        exact e0), e0, f0, apply43 fun k hk => by omega⟩
    | succ m ih =>
      obtain ⟨h1, h2, h3, h4⟩ := ih
      have e1 := eval28 h2 h3 h4
      refine ⟨fun k hk => ?_, e1, force39 h2, apply43 h1⟩
      by_cases hm : k = m + 1
      · subst hm; exact e1
      · exact h1 k (by omega)
  exact fun m => (key m).2
end Go.Lite
