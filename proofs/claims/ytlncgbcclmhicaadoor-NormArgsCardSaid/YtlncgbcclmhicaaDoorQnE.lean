/-
  Several texts in one: NArgs.
-/
import Derived.Test.YtlncgbcclmhicaaDoorQnD
import Derived.Test.YtlncgbcclmhicaaDoorQbA

/-
  The law NormArgs: which arguments get names.
-/
namespace Go.Lite
open Go Go.Proofs
set_option maxRecDepth 100000
set_option linter.unusedSimpArgs false
set_option linter.unusedVariables false

def oneA : X := .mk 1 [49] [] []
def notA : X := .mk 10 [110, 111, 116] [] [oneA]
def partA (b : Bool) : X := bif b then notA else oneA
/-- the parts, then; what is bound; the names -/
def outP : List Bool → Nat → List X
  | [], _ => []
  | true :: bs, c => varX (pct (c + 1)) :: outP bs (c + 1)
  | false :: bs, c => oneA :: outP bs c
def outL : List Bool → Nat → List (Str × X)
  | [], _ => []
  | true :: bs, c => (pct (c + 1), notA) :: outL bs (c + 1)
  | false :: bs, c => outL bs c
def outN : List Bool → Nat → List Str
  | [], _ => []
  | true :: bs, c => pct (c + 1) :: outN bs (c + 1)
  | false :: bs, c => [49] :: outN bs c
def cntA : List Bool → Nat
  | [] => 0
  | true :: bs => cntA bs + 1
  | false :: bs => cntA bs

theorem cntA_le : ∀ bs, cntA bs ≤ bs.length
  | [] => Nat.le_refl _
  | true :: bs => by have := cntA_le bs; simp only [cntA, List.length_cons]; omega
  | false :: bs => by have := cntA_le bs; simp only [cntA, List.length_cons]; omega

theorem cntA_snoc (b : Bool) : ∀ bs, cntA (bs ++ [b]) = cntA bs + (bif b then 1 else 0)
  | [] => by cases b <;> rfl
  | true :: bs => by simp only [List.cons_append, cntA, cntA_snoc b bs]; omega
  | false :: bs => by simp only [List.cons_append, cntA, cntA_snoc b bs]
theorem outN_snoc (b : Bool) : ∀ bs c, outN (bs ++ [b]) c = outN bs c ++ [bif b then pct (c + cntA bs + 1) else [49]]
  | [], c => by cases b <;> rfl
  | true :: bs, c => by
    simp only [List.cons_append, outN, cntA, outN_snoc b bs, List.cons.injEq, true_and]
    rw [show c + 1 + cntA bs + 1 = c + (cntA bs + 1) + 1 by omega]
  | false :: bs, c => by simp only [List.cons_append, outN, cntA, outN_snoc b bs]
theorem outN_len : ∀ bs c, (outN bs c).length = bs.length
  | [], _ => rfl
  | true :: bs, c => by simp only [outN, List.length_cons, outN_len bs]
  | false :: bs, c => by simp only [outN, List.length_cons, outN_len bs]
theorem outP_len : ∀ bs c, (outP bs c).length = bs.length
  | [], _ => rfl
  | true :: bs, c => by simp only [outP, List.length_cons, outP_len bs]
  | false :: bs, c => by simp only [outP, List.length_cons, outP_len bs]
theorem outL_len : ∀ bs c, (outL bs c).length = cntA bs
  | [], _ => rfl
  | true :: bs, c => by simp only [outL, List.length_cons, outL_len bs, cntA]
  | false :: bs, c => by simp only [outL, outL_len bs, cntA]
theorem outL_at : ∀ bs c j, j < cntA bs → (outL bs c)[j]? = some (pct (c + j + 1), notA)
  | [], c, j, h => by simp [cntA] at h
  | true :: bs, c, 0, h => rfl
  | true :: bs, c, j + 1, h => by
    have := outL_at bs (c + 1) j (by simp only [cntA] at h; omega)
    rw [show c + 1 + j + 1 = c + (j + 1) + 1 by omega] at this
    simpa [outL] using this
  | false :: bs, c, j, h => outL_at bs c j h

theorem one_nrm (c : Nat) : oneA.nrm c = (oneA, c) := nrm_of_is _ (by simp [oneA, X.is, X.iss]) _
theorem not_nrm (c : Nat) : notA.nrm c = (notA, c) := nrm_of_is _ (by simp [notA, oneA, X.is, X.iss, must, consT]) _

theorem nrms_bits : ∀ (bs : List Bool) (m i c : Nat), m ≤ i → X.nrms (bs.map partA) m i c = (outP bs c, outL bs c, c + cntA bs)
  | [], m, i, c, h => rfl
  | true :: bs, m, i, c, h => by
    have h1 : notA.atom = false := rfl
    simp only [List.map_cons, partA, cond_true, X.nrms, not_nrm, h1, h, and_self, if_true, nrms_bits bs m (i + 1) (c + 1) (by omega), outP, outL, cntA]
    rw [show c + 1 + cntA bs = c + (cntA bs + 1) by omega]
  | false :: bs, m, i, c, h => by
    have h1 : oneA.atom = true := rfl
    simp only [List.map_cons, partA, cond_false, X.nrms, one_nrm, h1, Bool.true_eq_false, and_false, if_false, nrms_bits bs m (i + 1) c (by omega), outP, outL, cntA]

def fT : Str := [102]
theorem app_nrm (bs : List Bool) : (X.mk 7 [] [] (varX fT :: bs.map partA)).nrm 0 = (bindAll (outL bs 0) (.mk 7 [] [] (varX fT :: outP bs 0)), cntA bs) := by
  have hm : must 7 [] = some 1 := by decide
  have h1 : (varX fT).nrm 0 = (varX fT, 0) := nrm_of_is _ (by simp [varX, X.is, X.iss]) _
  simp only [X.nrm, hm, Option.getD_some, X.nrms, h1, show ¬ (1 ≤ 0) by omega, false_and, if_false, nrms_bits bs 1 1 0 (Nat.le_refl _), Nat.zero_add]
theorem consA_nrm (bs : List Bool) : (X.mk 10 consT [] (bs.map partA)).nrm 0 = (bindAll (outL bs 0) (.mk 10 consT [] (outP bs 0)), cntA bs) := by
  have hm : must 10 consT = some 0 := by decide
  simp only [X.nrm, hm, Option.getD_some, nrms_bits bs 0 0 0 (Nat.le_refl _), Nat.zero_add]

theorem var_txt (s : Str) : (varX s).txt = s := by rw [varX, X.txt, txtOf]; simp
theorem outP_txt : ∀ bs c, X.txts (outP bs c) = outN bs c
  | [], _ => rfl
  | true :: bs, c => by simp only [outP, outN, X.txts, outP_txt bs, var_txt]
  | false :: bs, c => by
    have : oneA.txt = [49] := by rw [oneA, X.txt, txtOf]; simp
    simp only [outP, outN, X.txts, outP_txt bs, this]

theorem outP_right : ∀ bs c, X.rights (outP bs c)
  | [], _ => trivial
  | true :: bs, c => by
    refine ⟨⟨.inr (.inr (.inr (.inr (.inl ⟨rfl, pct_ne _, rfl, rfl⟩)))), ?_, trivial⟩, outP_right bs _⟩
    intro i x h; simp at h
  | false :: bs, c => by
    refine ⟨⟨.inl ⟨rfl, by decide, rfl, rfl⟩, ?_, trivial⟩, outP_right bs _⟩
    intro i x h; simp at h
theorem outP_fit : ∀ bs c, X.fits (outP bs c)
  | [], _ => trivial
  | true :: bs, c => ⟨⟨by simp, by simp, trivial⟩, outP_fit bs _⟩
  | false :: bs, c => ⟨⟨by simp, by simp, trivial⟩, outP_fit bs _⟩
theorem partA_fit : ∀ bs : List Bool, X.fits (bs.map partA)
  | [] => trivial
  | true :: bs => ⟨⟨by simp, by simp, ⟨by simp, by simp, trivial⟩, trivial⟩, partA_fit bs⟩
  | false :: bs => ⟨⟨by simp, by simp, trivial⟩, partA_fit bs⟩

theorem pct_len (n : Nat) : (pct n).length ≤ 4 := by
  unfold pct numT
  split <;> simp
theorem outN_joinT : ∀ bs c, ((outN bs c).flatMap fun r => 32 :: r).length ≤ 5 * bs.length
  | [], _ => Nat.zero_le _
  | true :: bs, c => by
    have h1 := outN_joinT bs (c + 1)
    have h2 := pct_len (c + 1)
    simp only [outN, List.flatMap_cons, List.length_append, List.length_cons] at h1 ⊢; omega
  | false :: bs, c => by
    have h1 := outN_joinT bs c
    simp only [outN, List.flatMap_cons, List.length_append, List.length_cons, List.length_nil] at h1 ⊢; omega
theorem joinT_le (l : List Str) : (joinT l).length ≤ (l.flatMap fun r => 32 :: r).length := by
  cases l with
  | nil => exact Nat.zero_le _
  | cons s l => simp only [joinT, List.flatMap_cons, List.length_append, List.length_cons]; omega

theorem numT_small {n : Nat} (h : n < 10) : pct n = [37, 46, 48 + n] := by unfold pct numT; rw [if_pos h]; rfl

def intK (n : Int) : List AV := [.int .i64 n]
theorem intK_len (n : Int) : (intK n).length = 1 := rfl
def vK (ks : List Int) : AV := vList false 1 intK ks
theorem len_vK {ks : List Int} : lenM (vK ks) = some (.int .i64 ks.length) := len_vList
theorem shutV_vK {ks : List Int} {H : Heap} : shutV (vK ks) H = some (vK ks, H) := shutV_vList
theorem iaddr_vK {l : List Int} {j : Nat} {d : Int} (h : l[j]? = some d) : iaddrV 1 (vK l) j = some (.ptr (.val [.int .i64 d]) 0) := iaddr_at intK_len h

theorem vXs_one1 (x : X) : vXs [x] = .lst 4 1 false x.cells := by
  simp only [vXs, vList_cons, List.flatMap_nil, List.append_nil, List.length_nil]

/-- cells, and what they are told as -/
def Tells (cs ts : List AV) : Prop := ∀ d H, mapHM (shutC d) cs H = some (ts, H)
theorem Tells.nil : Tells [] [] := fun d H => rfl
theorem Tells.append : ∀ {cs ts cs' ts' : List AV}, Tells cs ts → Tells cs' ts' → Tells (cs ++ cs') (ts ++ ts') := fun {cs ts cs' ts'} h k d H => by
  have key : ∀ (cs ts : List AV) (H : Heap), mapHM (shutC d) cs H = some (ts, H) → mapHM (shutC d) (cs ++ cs') H = (mapHM (shutC d) cs' H).map fun q => (ts ++ q.1, q.2) := by
    intro cs
    have gen : ∀ (cs ts : List AV) (H H' : Heap), mapHM (shutC d) cs H = some (ts, H') → mapHM (shutC d) (cs ++ cs') H = (mapHM (shutC d) cs' H').map fun q => (ts ++ q.1, q.2) := by
      intro cs
      induction cs with
      | nil =>
        intro ts H H' h
        simp only [mapHM_nil, Option.some.injEq, Prod.mk.injEq] at h
        obtain ⟨rfl, rfl⟩ := h
        simp
      | cons c cs ih =>
        intro ts H H' h
        rw [mapHM_cons] at h
        simp only [Option.bind_eq_some_iff, Option.map_eq_some_iff] at h
        obtain ⟨⟨y, H1⟩, h1, ⟨zs, H2⟩, h2, h3⟩ := h
        simp only [Prod.mk.injEq] at h3
        obtain ⟨rfl, rfl⟩ := h3
        rw [List.cons_append, mapHM_cons, h1, Option.bind_some, ih _ _ _ h2]
        simp only [Option.map_map]
        rfl
    exact fun ts H h => gen cs ts H H h
  rw [key cs ts H (h d H), k d H]
  rfl

/-- a list that is appended to, or a told one to begin with -/
def Gr (H : Heap) (n : Nat) (cells : List AV) (v : AV) : Prop := Acc 3 H 28 4 n cells v ∨ (v = .lst 4 n true cells ∧ n ≠ 0 ∧ cells.length = n * 4 ∧ cells.all AV.flat = true ∧ Tells cells cells)

theorem Gr.flat {H : Heap} {n : Nat} {cells : List AV} {v : AV} (h : Gr H n cells v) : v.flat = true := by
  rcases h with h | ⟨rfl, _⟩
  · exact h.flat
  · rfl

theorem Gr.more {H : Heap} {n : Nat} {cells ys : List AV} {v : AV} (h : Gr H n cells v) (hN : 3 ≤ H.n) (low : HLow H) (hys : ys.length = 4) (hfl : ys.all AV.flat = true) (hb : n ≤ 1000) :
    ∃ H', appendOf 28 4 72 H v (1, ys) = some (.slice (.new H.n) 0 (n + 1) (.gro 4), H') ∧ Acc 3 H' 28 4 (n + 1) (cells ++ ys) (.slice (.new H.n) 0 (n + 1) (.gro 4)) ∧ HKeep (blk v) H H' ∧ HLow H' ∧ H'.n = H.n + 1 := by
  rcases h with h | ⟨rfl, h0, hl, hf, _⟩
  · exact h.one_more hN low (by decide) hys hfl (by omega)
  · unfold appendOf
    rw [if_neg (by simp [hfl])]
    simp only []
    rw [if_neg (by omega), if_pos ⟨.inl trivial, trivial, by omega, by omega⟩]
    exact ⟨_, rfl, .inr ⟨by omega, by rw [List.length_append]; omega, H.n, rfl, hN, by simp [Heap.fresh, h_get]⟩, HKeep.push low, low.push, by simp [Heap.fresh, h_n]⟩

theorem Gr.push {H : Heap} {n : Nat} {cells : List AV} {v : AV} (h : Gr H n cells v) (low : HLow H) {ob : Obj} : Gr (H.push ob) n cells v := h.imp (fun h => h.push low) fun h => h

theorem Gr.other {H H' : Heap} {n n' : Nat} {cells cells' : List AV} {v u : AV} (h : Gr H n cells v) (low : HLow H) (k : Acc 3 H 9 1 n' cells' u) (kp : HKeep (blk v) H H') : Acc 3 H' 9 1 n' cells' u := by
  rcases h with h | ⟨rfl, _⟩
  · exact h.other k (by decide) kp
  · refine k.keep fun j o _ hj => ?_
    rw [hj]
    refine kp.get j _ hj ?_
    rintro ⟨_, _, _, h⟩; cases h

theorem Gr.row {H H' : Heap} {n : Nat} {cells : List AV} {v : AV} (h : Gr H n cells v) (kp : HKeep (blk v) H H') {j : Nat} {cs : List AV} {fz : Bool} {ty : Option Nat} (hj : H.t.get j = some (.row cs 0 fz ty)) : H'.t.get j = some (.row cs 0 fz ty) := by
  rcases h with h | ⟨rfl, _⟩
  · exact h.row (by decide) kp hj
  · refine kp.get j _ hj ?_
    rintro ⟨_, _, _, h⟩; cases h

/-- whether the i-th argument is to be no atom -/
def bitA (ks : List Int) (i : Nat) : Bool := !(within ((ks[i]?).getD i) 2 == 0)
def bitsA (ks : List Int) (n : Nat) : List Bool := (List.range n).map (bitA ks)
theorem bitsA_succ (ks : List Int) (n : Nat) : bitsA ks (n + 1) = bitsA ks n ++ [bitA ks n] := by
  unfold bitsA; rw [List.range_succ, List.map_append]; rfl
theorem bitsA_len (ks : List Int) (n : Nat) : (bitsA ks n).length = n := by unfold bitsA; simp

/-- what stands while the arguments are made -/
def ArgI (ks : List Int) (cons : Bool) (N : Nat) (k : Int) (t : Str) (pre : List X) (i : Nat) (fr : Fr) (H : Heap) : Prop :=
  ∃ v u cs, Gr H (pre.length + i) cs v ∧ Tells cs ((pre ++ (bitsA ks i).map partA).flatMap X.cells) ∧ Acc 3 H 9 1 i ((outN (bitsA ks i) 0).flatMap str1) u ∧ HLow H ∧ 3 ≤ H.n ∧ fr 0 = vK ks ∧ fr 1 = .bool cons ∧ fr 5 = .ptr (.new 1) 0 ∧ fr 6 = .int .i64 (N : Nat) ∧ fr 7 = .ptr (.new 2) 0 ∧ fr 8 = .int .i64 (cntA (bitsA ks i) : Nat) ∧ fr 9 = u ∧ fr 10 = .int .i64 (i : Nat) ∧
  H.t.get 1 = some (.row [.int .i64 k, .str t, .nils, v] 0 false (some 28)) ∧ H.t.get 2 = some (.row [.int .i64 1, .str [49], .nils, .nils] 0 false (some 28))

theorem args_tail {H5 : Heap} {s : Str} {m i : Nat} {cellsA cellsN cs1 cs2 : List AV} {v u : AV} (aA : Acc 3 H5 28 4 m cellsA v) (aN : Acc 3 H5 9 1 i cellsN u) (low : HLow H5) (hi : i ≤ 100) (h3 : 3 ≤ H5.n) (g1 : H5.t.get 1 = some (.row cs1 0 false (some 28))) (g2 : H5.t.get 2 = some (.row cs2 0 false (some 28))) :
    ∃ H6 u', appendOf 9 1 16 H5 u (1, [.str s]) = some (u', H6) ∧ Acc 3 H6 28 4 m cellsA v ∧ Acc 3 H6 9 1 (i + 1) (cellsN ++ [.str s]) u' ∧ HLow H6 ∧ 3 ≤ H6.n ∧
      H6.t.get 1 = some (.row cs1 0 false (some 28)) ∧ H6.t.get 2 = some (.row cs2 0 false (some 28)) := by
  obtain ⟨H6, happ, acc6, kp6, low6, n6⟩ := aN.one_more (bs := 16) (ys := [.str s]) h3 low (by decide) rfl rfl (by omega)
  exact ⟨H6, _, happ, aN.other aA (by decide) kp6, acc6, low6, by omega, aN.row (by decide) kp6 g1, aN.row (by decide) kp6 g2⟩

theorem args_l0 {n : Nat} {ks : List Int} {cons : Bool} {N : Nat} {k : Int} {t : Str} {pre : List X} {fr : Fr} {H : Heap} {KK : Ex → Fr → Heap → R} {Q : AV → Heap → Prop} (hN : N ≤ 6) (hp : pre.length ≤ 1) (hn : 10 ≤ n)
    (e2 : ∀ x : Int, x ∈ (List.range N).map (fun (i : Nat) => (ks[i]?).getD (i : Int)) → ∀ H, callN P3 n 18 [.int .i64 x, .int .i64 2] H = some (.ret (.int .i64 (within x 2)), H))
    (h0 : ArgI ks cons N k t pre 0 fr H) (hK : ∀ fr H, ArgI ks cons N k t pre N fr H → Gives (KK (.exit 0) fr H) Q) : Gives (loopR (callN P3 n) n c9_l0 n fr H KK) Q := by
  refine loop_rounds N (fun i fr H => ArgI ks cons N k t pre i fr H) ?_ ?_ n 0 _ _ (by omega) (by omega) h0
  · rintro i fr H K' hi ⟨v, u, cs, gr, tl, acc, low, h3n, q0, q1, q5, q6, q7, q8, q9, q10, g1, g2⟩ hKe hKr hK'
    have ew := e2 _ (List.mem_map.2 ⟨i, List.mem_range.2 hi, rfl⟩)
    have hlt : (i : Int) < (N : Int) := by omega
    have hw := wrap_succ (i := i) (n := N) hi (by omega)
    have hbit : bitA ks i = !(within ((ks[i]?).getD i) 2 == 0) := rfl
    have hkk : (∃ x, ks[i]? = some x ∧ (i : Int) < (ks.length : Int) ∧ (ks[i]?).getD (i : Int) = x) ∨ (¬ (i : Int) < (ks.length : Int) ∧ (ks[i]?).getD (i : Int) = i) := by
      by_cases h : i < ks.length
      · exact .inl ⟨ks[i], List.getElem?_eq_getElem h, by omega, by rw [List.getElem?_eq_getElem h]; rfl⟩
      · exact .inr ⟨by omega, by rw [List.getElem?_eq_none (by omega)]; rfl⟩
    have hcnt := cntA_le (bitsA ks i)
    rw [bitsA_len] at hcnt
    -- what is pushed
    have m1 := low.lt g1
    have m2 := low.lt g2
    have hcs := bitsA_succ ks i
    unfold ArgI at hK'
    rw [hcs, cntA_snoc, outN_snoc, Nat.zero_add] at hK'
    generalize within ((ks[i]?).getD i) 2 = w at *
    generalize bitsA ks i = bs at *
    rw [hbit] at hK'
    cases hwz : (w == 0) with
    | true =>
      rw [hwz, Bool.not_true, cond_false, cond_false] at hK'
      obtain ⟨H4, happ, acc4, kp4, low4, n4⟩ := (gr.push low (ob := .row [.int .i64 1, .str [49], .lst 0 0 true [], .lst 0 0 true []] 0 true none)).more (ys := [.int .i64 1, .str [49], .lst 0 0 true [], .lst 0 0 true []]) (by rw [h_n]; omega) low.push rfl rfl (by omega)
      have names4 := (gr.push low).other low.push (acc.push low) kp4
      have r1 := (gr.push low).row kp4 (j := 1) (by rw [h_get, if_neg (by omega)]; exact g1)
      have r2 := (gr.push low).row kp4 (j := 2) (by rw [h_get, if_neg (by omega)]; exact g2)
      have l1 := low4.lt r1
      have l2 := low4.lt r2
      have low5 : HLow (H4.put 1 (.row [.int .i64 k, .str t, .nils, .slice (.new (H.n + 1)) 0 (pre.length + i + 1) (.gro 4)] 0 false (some 28))) := low4.put l1
      have n4' : H4.n = H.n + 2 := by rw [n4, h_n]
      simp only [h_n] at acc4
      obtain ⟨H6, u', happ2, accA, accN, low6, h36, g16, g26⟩ := args_tail (s := [49]) ((acc4.put (by decide) r1 (ob := .row [.int .i64 k, .str t, .nils, .slice (.new (H.n + 1)) 0 (pre.length + i + 1) (.gro 4)] 0 false (some 28))).push low5 (ob := .row [.str [49]] 0 true none)) ((names4.put (by decide) r1).push low5) low5.push (by omega) (by simp only [h_n, h_nput]; omega) (by rw [h_get, if_neg (by rw [h_nput]; omega), h_gput, if_pos rfl]) (by rw [h_get, if_neg (by rw [h_nput]; omega), h_gput, if_neg (by decide)]; exact r2)
      have fu := acc.flat
      have fv := gr.flat
      simp -implicitDefEqProofs only [h_n] at happ happ2
      have fin : ∀ fr' : Fr, fr' 0 = vK ks → fr' 1 = .bool cons → fr' 5 = .ptr (.new 1) 0 → fr' 6 = .int .i64 (N : Nat) → fr' 7 = .ptr (.new 2) 0 → fr' 8 = .int .i64 (cntA bs : Nat) → fr' 9 = u' → fr' 10 = .int .i64 (i + 1 : Nat) → Gives (K' .normal fr' H6) Q := fun fr' t0 t1 t5 t6 t7 t8 t9 t10 => by
        refine hK' _ _ ⟨_, u', _, .inl accA, ?_, ?_, low6, h36, t0, t1, t5, t6, t7, t8, t9, t10, g16, g26⟩
        · rw [List.map_append, List.map_cons, List.map_nil, ← List.append_assoc, List.flatMap_append (xs := pre ++ bs.map partA), show partA false = oneA from rfl]
          refine tl.append fun d H => ?_
          simp only [List.flatMap_cons, List.flatMap_nil, List.append_nil, oneA, X.cells_mk, vStrs_nil, vXs_nil, mapHM_cons, mapHM_nil, shutC_int, shutC_str, shutC_lst0, Option.bind_some, Option.map_some]
        · rw [List.flatMap_append]; simpa [str1] using accN
      rcases hkk with ⟨x, hx, hlt2, hgx⟩ | ⟨hlt2, hgx⟩
      · rw [hgx] at ew
        simp -implicitDefEqProofs only [c9_l0, ↓v_lenS, SB, POp.val, AOp.val, WOp.val, Lite.bin, intBin, strBin, eqv, eqMany, eq1, AV.asBool, AV.asInt, AV.asNat, AV.asPtr, AV.asStr, resVals, ResV.val, oneOr, wants, skipped, fillAt, putAt, capOf, optNat, bnd, Nat.reduceBEq, reduceIte, Nat.reduceAdd, Nat.reduceLeDiff, Nat.reduceEqDiff, Nat.reduceSub, Nat.reduceMul, Nat.reduceDiv, SOper.again, same, sameBlk, sameCap, Nat.reduceBneDiff, s_draw2, s_pair, k_pair, asunder, SOper.into, Bool.not_false, Bool.not_true, CL, XS, len_vK, q0, q1, q5, q6, q7, q8, q9, q10, g1, g2, hlt, hlt2, hw, iaddr_vK hx, ew, hwz, happ, happ2, fu, fv, r1]
        refine fin _ ?_ ?_ ?_ ?_ ?_ ?_ ?_ ?_
        all_goals simp -implicitDefEqProofs only [↓v_lenS, SB, POp.val, AOp.val, WOp.val, Lite.bin, intBin, strBin, eqv, eqMany, eq1, AV.asBool, AV.asInt, AV.asNat, AV.asPtr, AV.asStr, resVals, ResV.val, oneOr, wants, skipped, fillAt, putAt, capOf, optNat, bnd, Nat.reduceBEq, reduceIte, Nat.reduceAdd, Nat.reduceLeDiff, Nat.reduceEqDiff, Nat.reduceSub, Nat.reduceMul, Nat.reduceDiv, SOper.again, same, sameBlk, sameCap, Nat.reduceBneDiff, s_draw2, s_pair, k_pair, asunder, SOper.into, Bool.not_false, Bool.not_true, q0, q1, q5, q6, q7, q8]
      · rw [hgx] at ew
        simp -implicitDefEqProofs only [c9_l0, ↓v_lenS, SB, POp.val, AOp.val, WOp.val, Lite.bin, intBin, strBin, eqv, eqMany, eq1, AV.asBool, AV.asInt, AV.asNat, AV.asPtr, AV.asStr, resVals, ResV.val, oneOr, wants, skipped, fillAt, putAt, capOf, optNat, bnd, Nat.reduceBEq, reduceIte, Nat.reduceAdd, Nat.reduceLeDiff, Nat.reduceEqDiff, Nat.reduceSub, Nat.reduceMul, Nat.reduceDiv, SOper.again, same, sameBlk, sameCap, Nat.reduceBneDiff, s_draw2, s_pair, k_pair, asunder, SOper.into, Bool.not_false, Bool.not_true, CL, XS, len_vK, q0, q1, q5, q6, q7, q8, q9, q10, g1, g2, hlt, hlt2, hw, ew, hwz, happ, happ2, fu, fv, r1]
        refine fin _ ?_ ?_ ?_ ?_ ?_ ?_ ?_ ?_
        all_goals simp -implicitDefEqProofs only [↓v_lenS, SB, POp.val, AOp.val, WOp.val, Lite.bin, intBin, strBin, eqv, eqMany, eq1, AV.asBool, AV.asInt, AV.asNat, AV.asPtr, AV.asStr, resVals, ResV.val, oneOr, wants, skipped, fillAt, putAt, capOf, optNat, bnd, Nat.reduceBEq, reduceIte, Nat.reduceAdd, Nat.reduceLeDiff, Nat.reduceEqDiff, Nat.reduceSub, Nat.reduceMul, Nat.reduceDiv, SOper.again, same, sameBlk, sameCap, Nat.reduceBneDiff, s_draw2, s_pair, k_pair, asunder, SOper.into, Bool.not_false, Bool.not_true, q0, q1, q5, q6, q7, q8]
    | false =>
      rw [hwz, Bool.not_false, cond_true, cond_true] at hK'
      have gr1 := gr.push low (ob := .row [.int .i64 1, .str [49], .lst 0 0 true [], .lst 0 0 true []] 0 true none)
      have lowp := low.push (ob := .row [.int .i64 1, .str [49], .lst 0 0 true [], .lst 0 0 true []] 0 true none)
      obtain ⟨H4, happ, acc4, kp4, low4, n4⟩ := (gr1.push lowp (ob := .row [.int .i64 10, .str [110, 111, 116], .nils, .lst 4 1 true [.int .i64 1, .str [49], .lst 0 0 true [], .lst 0 0 true []]] 0 false none)).more (ys := [.int .i64 10, .str [110, 111, 116], .nils, .lst 4 1 true [.int .i64 1, .str [49], .lst 0 0 true [], .lst 0 0 true []]]) (by simp only [h_n]; omega) lowp.push rfl rfl (by omega)
      have names4 := (gr1.push lowp).other lowp.push ((acc.push low).push lowp) kp4
      have r1 := (gr1.push lowp).row kp4 (j := 1) (by rw [h_get, if_neg (by rw [h_n]; omega), h_get, if_neg (by omega)]; exact g1)
      have r2 := (gr1.push lowp).row kp4 (j := 2) (by rw [h_get, if_neg (by rw [h_n]; omega), h_get, if_neg (by omega)]; exact g2)
      have l1 := low4.lt r1
      have n4' : H4.n = H.n + 3 := by rw [n4]; simp only [h_n]
      simp only [h_n] at acc4
      have low5 : HLow (H4.put 1 (.row [.int .i64 k, .str t, .nils, .slice (.new (H.n + 1 + 1)) 0 (pre.length + i + 1) (.gro 4)] 0 false (some 28))) := low4.put l1
      have hd : cntA bs + 1 < 10 := by omega
      have hpct := numT_small hd
      rw [hpct] at hK'
      obtain ⟨H6, u', happ2, accA, accN, low6, h36, g16, g26⟩ := args_tail (s := [37, 46, 48 + (cntA bs + 1)]) (((acc4.put (by decide) r1 (ob := .row [.int .i64 k, .str t, .nils, .slice (.new (H.n + 1 + 1)) 0 (pre.length + i + 1) (.gro 4)] 0 false (some 28))).push low5 (ob := .row [.int .u8 ((48 + (cntA bs + 1) : Nat) : Int)] 0 true none)).push low5.push (ob := .row [.str [37, 46, 48 + (cntA bs + 1)]] 0 true none)) (((names4.put (by decide) r1).push low5).push low5.push) low5.push.push (by omega) (by simp only [h_n, h_nput]; omega) (by rw [h_get, if_neg (by rw [h_n, h_nput]; omega), h_get, if_neg (by rw [h_nput]; omega), h_gput, if_pos rfl]) (by rw [h_get, if_neg (by rw [h_n, h_nput]; omega), h_get, if_neg (by rw [h_nput]; omega), h_gput, if_neg (by decide)]; exact r2)
      have fu := acc.flat
      have fv := gr.flat
      simp -implicitDefEqProofs only [h_n] at happ happ2
      have fin : ∀ fr' : Fr, fr' 0 = vK ks → fr' 1 = .bool cons → fr' 5 = .ptr (.new 1) 0 → fr' 6 = .int .i64 (N : Nat) → fr' 7 = .ptr (.new 2) 0 → fr' 8 = .int .i64 (cntA bs + 1 : Nat) → fr' 9 = u' → fr' 10 = .int .i64 (i + 1 : Nat) → Gives (K' .normal fr' H6) Q := fun fr' t0 t1 t5 t6 t7 t8 t9 t10 => by
        refine hK' _ _ ⟨_, u', _, .inl accA, ?_, ?_, low6, h36, t0, t1, t5, t6, t7, t8, t9, t10, g16, g26⟩
        · rw [List.map_append, List.map_cons, List.map_nil, ← List.append_assoc, List.flatMap_append (xs := pre ++ bs.map partA), show partA true = notA from rfl]
          refine tl.append fun d H => ?_
          simp only [List.flatMap_cons, List.flatMap_nil, List.append_nil, notA, oneA, X.cells_mk, vStrs_nil, vXs_nil, vXs_one1, mapHM_cons, mapHM_nil, shutC_int, shutC_str, shutC_nils, shutC_lst0, shutC_lstF, Option.bind_some, Option.map_some]
          rfl
        · rw [List.flatMap_append]; simpa [str1] using accN
      have hwd : IntKind.i64.wrap ((cntA bs : Int) + 1) = ((cntA bs + 1 : Nat) : Int) := wrap_succ (n := cntA bs + 1) (by omega) (by omega)
      have hws : IntKind.i64.wrap (48 + ((cntA bs + 1 : Nat) : Int)) = ((48 + (cntA bs + 1) : Nat) : Int) := by rw [wrap64 (by omega) (by omega)]; omega
      have hby : ∀ m : Nat, m < 10 → IntKind.u8.wrap ((48 + m : Nat) : Int) = ((48 + m : Nat) : Int) ∧ bytesOf [AV.int .u8 ((48 + m : Nat) : Int)] = some [48 + m] := by decide
      obtain ⟨hb1, hb2⟩ := hby _ hd
      have hlen : 2 + 1 ≤ 4611686018427387904 := by omega
      rcases hkk with ⟨x, hx, hlt2, hgx⟩ | ⟨hlt2, hgx⟩
      · rw [hgx] at ew
        simp -implicitDefEqProofs only [c9_l0, ↓v_lenS, SB, POp.val, AOp.val, WOp.val, Lite.bin, intBin, strBin, eqv, eqMany, eq1, AV.asBool, AV.asInt, AV.asNat, AV.asPtr, AV.asStr, resVals, ResV.val, oneOr, wants, skipped, fillAt, putAt, capOf, optNat, bnd, Nat.reduceBEq, reduceIte, Nat.reduceAdd, Nat.reduceLeDiff, Nat.reduceEqDiff, Nat.reduceSub, Nat.reduceMul, Nat.reduceDiv, SOper.again, same, sameBlk, sameCap, Nat.reduceBneDiff, s_draw2, s_pair, k_pair, asunder, SOper.into, Bool.not_false, Bool.not_true, CL, XS, len_vK, q0, q1, q5, q6, q7, q8, q9, q10, g1, g2, hlt, hlt2, hw, iaddr_vK hx, ew, hwz, happ, happ2, fu, fv, r1, hwd, hws, hb1, hb2, strOfBytes, hlen]
        refine fin _ ?_ ?_ ?_ ?_ ?_ ?_ ?_ ?_
        all_goals simp -implicitDefEqProofs only [↓v_lenS, SB, POp.val, AOp.val, WOp.val, Lite.bin, intBin, strBin, eqv, eqMany, eq1, AV.asBool, AV.asInt, AV.asNat, AV.asPtr, AV.asStr, resVals, ResV.val, oneOr, wants, skipped, fillAt, putAt, capOf, optNat, bnd, Nat.reduceBEq, reduceIte, Nat.reduceAdd, Nat.reduceLeDiff, Nat.reduceEqDiff, Nat.reduceSub, Nat.reduceMul, Nat.reduceDiv, SOper.again, same, sameBlk, sameCap, Nat.reduceBneDiff, s_draw2, s_pair, k_pair, asunder, SOper.into, Bool.not_false, Bool.not_true, q0, q1, q5, q6, q7, q8]
      · rw [hgx] at ew
        simp -implicitDefEqProofs only [c9_l0, ↓v_lenS, SB, POp.val, AOp.val, WOp.val, Lite.bin, intBin, strBin, eqv, eqMany, eq1, AV.asBool, AV.asInt, AV.asNat, AV.asPtr, AV.asStr, resVals, ResV.val, oneOr, wants, skipped, fillAt, putAt, capOf, optNat, bnd, Nat.reduceBEq, reduceIte, Nat.reduceAdd, Nat.reduceLeDiff, Nat.reduceEqDiff, Nat.reduceSub, Nat.reduceMul, Nat.reduceDiv, SOper.again, same, sameBlk, sameCap, Nat.reduceBneDiff, s_draw2, s_pair, k_pair, asunder, SOper.into, Bool.not_false, Bool.not_true, CL, XS, len_vK, q0, q1, q5, q6, q7, q8, q9, q10, g1, g2, hlt, hlt2, hw, ew, hwz, happ, happ2, fu, fv, r1, hwd, hws, hb1, hb2, strOfBytes, hlen]
        refine fin _ ?_ ?_ ?_ ?_ ?_ ?_ ?_ ?_
        all_goals simp -implicitDefEqProofs only [↓v_lenS, SB, POp.val, AOp.val, WOp.val, Lite.bin, intBin, strBin, eqv, eqMany, eq1, AV.asBool, AV.asInt, AV.asNat, AV.asPtr, AV.asStr, resVals, ResV.val, oneOr, wants, skipped, fillAt, putAt, capOf, optNat, bnd, Nat.reduceBEq, reduceIte, Nat.reduceAdd, Nat.reduceLeDiff, Nat.reduceEqDiff, Nat.reduceSub, Nat.reduceMul, Nat.reduceDiv, SOper.again, same, sameBlk, sameCap, Nat.reduceBneDiff, s_draw2, s_pair, k_pair, asunder, SOper.into, Bool.not_false, Bool.not_true, q0, q1, q5, q6, q7, q8]
  · rintro fr H K' h hKe hKr
    have h' := h
    obtain ⟨v, u, cs, gr, tl, acc, low, h3n, q0, q1, q5, q6, q7, q8, q9, q10, g1, g2⟩ := h
    simp -implicitDefEqProofs only [c9_l0, ↓v_lenS, SB, POp.val, AOp.val, WOp.val, Lite.bin, intBin, strBin, eqv, eqMany, eq1, AV.asBool, AV.asInt, AV.asNat, AV.asPtr, AV.asStr, resVals, ResV.val, oneOr, wants, skipped, fillAt, putAt, capOf, optNat, bnd, Nat.reduceBEq, reduceIte, Nat.reduceAdd, Nat.reduceLeDiff, Nat.reduceEqDiff, Nat.reduceSub, Nat.reduceMul, Nat.reduceDiv, SOper.again, same, sameBlk, sameCap, Nat.reduceBneDiff, s_draw2, s_pair, k_pair, asunder, SOper.into, Bool.not_false, Bool.not_true, q6, q10, Int.lt_irrefl, hKe]
    refine hK _ _ ⟨v, u, cs, gr, tl, acc, low, h3n, ?_, ?_, ?_, ?_, ?_, ?_, ?_, ?_, g1, g2⟩
    all_goals simp -implicitDefEqProofs only [↓v_lenS, SB, POp.val, AOp.val, WOp.val, Lite.bin, intBin, strBin, eqv, eqMany, eq1, AV.asBool, AV.asInt, AV.asNat, AV.asPtr, AV.asStr, resVals, ResV.val, oneOr, wants, skipped, fillAt, putAt, capOf, optNat, bnd, Nat.reduceBEq, reduceIte, Nat.reduceAdd, Nat.reduceLeDiff, Nat.reduceEqDiff, Nat.reduceSub, Nat.reduceMul, Nat.reduceDiv, SOper.again, same, sameBlk, sameCap, Nat.reduceBneDiff, s_draw2, s_pair, k_pair, asunder, SOper.into, Bool.not_false, Bool.not_true, q0, q1, q5, q6, q7, q8, q9, q10]

end Go.Lite
