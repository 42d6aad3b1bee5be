/-
  The interpreter, step by step, as rewriting: what comes next is held in named functions, so that nothing is looked at ahead of its time.
-/
import Derived.Test.YtibjdfajafilhaaLRow
namespace Go.Lite
open Go
set_option linter.unusedVariables false

/-! ### What comes next -/

def stepK (r : Option AV) (call : CallF) (d : Option Nat) (l : List SOper) (fr : Fr) (H : Heap) (K : Fr → Heap → R) : R := r.bind fun v => runOps call l (fr.put d v) H K
def stepA (r : Option (Obj × AV)) (call : CallF) (d : Option Nat) (l : List SOper) (fr : Fr) (H : Heap) (K : Fr → Heap → R) : R := r.bind fun q => runOps call l (fr.put d q.2) (H.push q.1) K
def stepW (r : Option (AV × Heap)) (call : CallF) (d : Option Nat) (l : List SOper) (fr : Fr) (K : Fr → Heap → R) : R := r.bind fun q => runOps call l (fr.put d q.1) q.2 K
def stepC (r : R) (call : CallF) (d : Option Nat) (l : List SOper) (fr : Fr) (K : Fr → Heap → R) : R := bindR r fun v H => runOps call l (fr.put d v) H K
def stepP (v : AV) (H : Heap) : R := match v with | .iface t v => some (.panic (.iface t v), H) | _ => none
def stepG (t : Option Bool) (call : CallF) (d : Option Nat) (o : SOp) (l : List SOper) (fr : Fr) (H : Heap) (K : Fr → Heap → R) : R :=
  t.bind fun t => bif t then runOps call (⟨d, none, o⟩ :: l) fr H K else runOps call l (fr.put d skipped) H K
def seqK (call : CallF) (n : Nat) (b : SCode) (K : Ex → Fr → Heap → R) : Ex → Fr → Heap → R := fun e fr' H' => match e with
  | .normal => b.run call n fr' H' K
  | e => K e fr' H'
def blockK (id : Nat) (K : Ex → Fr → Heap → R) : Ex → Fr → Heap → R := fun e fr' H' => match e with
  | .exit i => bif Nat.beq i id then K .normal fr' H' else K (.exit i) fr' H'
  | e => K e fr' H'
def condK (t : Option Bool) (call : CallF) (n : Nat) (a b : SCode) (fr : Fr) (H : Heap) (K : Ex → Fr → Heap → R) : R := t.bind fun t => bif t then a.run call n fr H K else b.run call n fr H K
def loopK (call : CallF) (n : Nat) (c : SCode) (m : Nat) (K : Ex → Fr → Heap → R) : Ex → Fr → Heap → R := fun e fr' H' => match e with
  | .normal => loopN (fun fr H K => c.run call n fr H K) m fr' H' K
  | e => K e fr' H'
def loopR (call : CallF) (n : Nat) (c : SCode) (m : Nat) (fr : Fr) (H : Heap) (K : Ex → Fr → Heap → R) : R := loopN (fun fr H K => c.run call n fr H K) m fr H K
def phsK (call : CallF) (l : List (SOper × List SOper × List SOper)) (K : Fr → Heap → R) : Fr → Heap → R := fun fr H => runPhs call l fr H K
def ckK (call : CallF) (cks sm : List SOper) (l : List (SOper × List SOper × List SOper)) (K : Fr → Heap → R) : Fr → Heap → R := fun fr H =>
  bif cks.all (·.again fr H) then runOps call sm fr H fun fr H => runPhs call l fr H K else none
def ckB (b : Bool) (call : CallF) (sm : List SOper) (l : List (SOper × List SOper × List SOper)) (fr : Fr) (H : Heap) (K : Fr → Heap → R) : R :=
  bif b then runOps call sm fr H (phsK call l K) else none

section
variable {call : CallF} {n m : Nat} {d : Option Nat} {l : List SOper} {fr : Fr} {H H' : Heap} {K : Fr → Heap → R} {KK : Ex → Fr → Heap → R} {v : AV} {o : Obj} {a b : SCode} {t : Nat}

theorem s_nil : runOps call [] fr H K = K fr H := rfl
theorem s_p {q : POp} : runOps call (⟨d, none, .p q⟩ :: l) fr H K = stepK (q.val fr H) call d l fr H K := rfl
theorem s_a {q : AOp} : runOps call (⟨d, none, .a q⟩ :: l) fr H K = stepA (q.val fr H.n) call d l fr H K := rfl
theorem s_w {q : WOp} : runOps call (⟨d, none, .w q⟩ :: l) fr H K = stepW (q.val fr H) call d l fr K := rfl
theorem s_c {f : SX} {as : List SX} : runOps call (⟨d, none, .call f as⟩ :: l) fr H K = stepC (callV call (f.ev fr) (as.map (·.ev fr)) H) call d l fr K := rfl
theorem s_pa {x : SX} : runOps call (⟨d, none, .panic x⟩ :: l) fr H K = stepP (x.ev fr) H := by
  simp only [runOps, SOper.run, wants, SOp.run, stepP, Option.bind_some, cond_true]
  cases x.ev fr <;> rfl
theorem s_g {q : SOp} {c : Bool} : runOps call (⟨d, some (t, c), q⟩ :: l) fr H K = stepG (wants fr (some (t, c))) call d q l fr H K := rfl
theorem k_p : stepK (some v) call d l fr H K = runOps call l (fr.put d v) H K := rfl
theorem k_a : stepA (some (o, v)) call d l fr H K = runOps call l (fr.put d v) (H.push o) K := rfl
theorem k_w : stepW (some (v, H')) call d l fr K = runOps call l (fr.put d v) H' K := rfl
theorem k_c : stepC (some (.ret v, H')) call d l fr K = runOps call l (fr.put d v) H' K := rfl
theorem k_cp : stepC (some (.panic v, H')) call d l fr K = some (.panic v, H') := rfl
theorem k_gt {q : SOp} : stepG (some true) call d q l fr H K = runOps call (⟨d, none, q⟩ :: l) fr H K := rfl
theorem k_gf {q : SOp} : stepG (some false) call d q l fr H K = runOps call l (fr.put d skipped) H K := rfl
theorem s_skip : SCode.run call n .skip fr H KK = KK .normal fr H := by simp only [SCode.run]
theorem s_ops : SCode.run call n (.ops l) fr H KK = runOps call l fr H (KK .normal) := by simp only [SCode.run]
theorem s_draw {phs : List (SOper × List SOper × List SOper)} : SCode.run call n (.draw l phs) fr H KK = runOps call l fr H (phsK call phs (KK .normal)) := by simp only [SCode.run]; rfl
/-- two stores, in either order -/
def pairG (t : Bool) (call : CallF) (a b : SOper) (fr : Fr) (H : Heap) (K : Fr → Heap → R) : R := bif t then runOps call [a, b] fr H K else none
def pairK (call : CallF) (a b : SOper) (K : Fr → Heap → R) : Fr → Heap → R := fun fr H => pairG (asunder a b fr) call a b fr H K
theorem s_draw2 {phs : List (SOper × List SOper × List SOper)} {x y : SOper} : SCode.run call n (.draw2 l phs x y) fr H KK = runOps call l fr H (phsK call phs (pairK call x y (KK .normal))) := by simp only [SCode.run]; rfl
theorem s_pair {x y : SOper} {K : Fr → Heap → R} : pairK call x y K fr H = pairG (asunder x y fr) call x y fr H K := rfl
theorem k_pair {x y : SOper} {K : Fr → Heap → R} : pairG true call x y fr H K = runOps call [x, y] fr H K := rfl
theorem s_seq : SCode.run call n (.seq a b) fr H KK = a.run call n fr H (seqK call n b KK) := by simp only [SCode.run]; rfl
theorem s_cond {x : SX} : SCode.run call n (.cond x a b) fr H KK = condK ((x.ev fr).asBool) call n a b fr H KK := by simp only [SCode.run]; rfl
theorem s_block : SCode.run call n (.block t a) fr H KK = a.run call n fr H (blockK t KK) := by simp only [SCode.run]; rfl
theorem s_loop : SCode.run call n (.loop a) fr H KK = loopR call n a n fr H KK := by simp only [SCode.run]; rfl
theorem s_exit : SCode.run call n (.exit t) fr H KK = KK (.exit t) fr H := by simp only [SCode.run]
theorem s_ret : SCode.run call n .ret fr H KK = KK .ret fr H := by simp only [SCode.run]
theorem k_seqN : seqK call n b KK .normal fr H = b.run call n fr H KK := rfl
theorem k_seqE : seqK call n b KK (.exit t) fr H = KK (.exit t) fr H := rfl
theorem k_seqR : seqK call n b KK .ret fr H = KK .ret fr H := rfl
theorem k_blockN : blockK t KK .normal fr H = KK .normal fr H := rfl
theorem k_blockR : blockK t KK .ret fr H = KK .ret fr H := rfl
theorem k_condT : condK (some true) call n a b fr H KK = a.run call n fr H KK := rfl
theorem k_condF : condK (some false) call n a b fr H KK = b.run call n fr H KK := rfl
theorem k_loopN : loopK call n a m KK .normal fr H = loopR call n a m fr H KK := rfl
theorem k_loopE : loopK call n a m KK (.exit t) fr H = KK (.exit t) fr H := rfl
theorem k_loopR : loopK call n a m KK .ret fr H = KK .ret fr H := rfl
/-- one round of a loop (not for rewriting at large) -/
theorem loop_succ : loopR call n a (m + 1) fr H KK = a.run call n fr H (loopK call n a m KK) := rfl
theorem s_phs {w : SOper} {c sm : List SOper} {phs : List (SOper × List SOper × List SOper)} : phsK call ((w, c, sm) :: phs) K fr H = runOps call [w] fr H (ckK call c sm phs K) := rfl
theorem s_phs0 : phsK call [] K fr H = K fr H := rfl
theorem s_ck {c sm : List SOper} {phs : List (SOper × List SOper × List SOper)} : ckK call c sm phs K fr H = ckB (c.all (·.again fr H)) call sm phs fr H K := rfl
theorem k_ck {sm : List SOper} {phs : List (SOper × List SOper × List SOper)} : ckB true call sm phs fr H K = runOps call sm fr H (phsK call phs K) := rfl

theorem beq_lit (s t : Nat) : Nat.beq s t = (s == t) := by
  rw [Bool.eq_iff_iff]
  simp
theorem k_blockE {i : Nat} : blockK t KK (.exit i) fr H = bif i == t then KK .normal fr H else KK (.exit i) fr H := by
  rw [← beq_lit]; rfl

/-! ### A slice's length -/

def lenM : AV → Option AV
  | .slice _ _ n _ => some (.int .i64 n)
  | .nils => some (.int .i64 0)
  | .emp => some (.int .i64 0)
  | .lst _ n _ _ => some (.int .i64 n)
  | _ => none
theorem v_lenS {x : SX} : (POp.lenS x).val fr H = lenM (x.ev fr) := by
  simp only [POp.val]
  cases x.ev fr <;> rfl
theorem k_len1 {p : Blk} {o n : Nat} {c : Cap} : lenM (.slice p o n c) = some (.int .i64 n) := rfl
theorem k_len2 : lenM .nils = some (.int .i64 0) := rfl
theorem k_len3 : lenM .emp = some (.int .i64 0) := rfl
theorem k_len4 {es n : Nat} {f : Bool} {cs : List AV} : lenM (.lst es n f cs) = some (.int .i64 n) := rfl

/-! ### Frames -/

theorem fr_put {v : AV} : fr.put (some t) v = fr.set t v := rfl
theorem fr_put0 {v : AV} : fr.put none v = fr := rfl
theorem fr_get {v : AV} {s : Nat} : (fr.set t v) s = bif s == t then v else fr s := by
  rw [← beq_lit]; rfl
theorem ev_tmp : SX.ev fr (.tmp t) = fr t := rfl
theorem ev_lit : SX.ev fr (.lit v) = v := rfl
theorem Fr.eta (fr : Fr) (t : Nat) : fr = fr.set t (fr t) := by
  funext s
  simp only [Fr.set]
  cases h : Nat.beq s t with
  | false => rfl
  | true => rw [Nat.eq_of_beq_eq_true h]; rfl
end

theorem init_get (xs : List AV) (t : Nat) : initFr xs t = (xs[t]?).getD .undef := rfl

theorem callN_code {P : Prg} {n : Nat} {f : FuncId} {xs : List AV} {H : Heap} {sf : SFunc} (ho : P.own f = none) (hc : P.code f = some sf) (hs : P.mode f = 0) (hl : Nat.ble xs.length sf.nt = true) :
    callN P (n + 1) f xs H = sf.body.run (callN P n) n (initFr xs) H (finish sf.res) := by
  simp only [callN, ho, hc, hl, hs, cond_true]

theorem callN_own {P : Prg} {n : Nat} {f : FuncId} {xs : List AV} {H : Heap} {g : List AV → Heap → R} (ho : P.own f = some g) : callN P (n + 1) f xs H = g xs H := by
  simp only [callN, ho]

theorem fin_ret {res : List ResV} {fr : Fr} {H : Heap} : finish res .ret fr H = (resVals fr H res).map fun vs => (.ret (oneOr vs), H) := rfl
theorem fin_norm {res : List ResV} {fr : Fr} {H : Heap} : finish res .normal fr H = (resVals fr H res).map fun vs => (.ret (oneOr vs), H) := rfl

theorem callV_f {call : CallF} {f : FuncId} {caps xs : List AV} {H : Heap} : callV call (.func f caps) xs H = call f (xs ++ caps) H := rfl

/-! ### The heap -/

section
variable {H : Heap} {o : Obj} {j k i n e : Nat} {vs cs : List AV}

theorem h_n : (H.push o).n = H.n + 1 := rfl
theorem h_nput : (H.put k o).n = H.n := rfl
theorem h_ndel : (H.del k).n = H.n := rfl
theorem h_get : (H.push o).t.get k = if k = H.n then some o else H.t.get k := by simp only [Heap.push, T.get_set]
theorem h_gput : (H.put j o).t.get k = if k = j then some o else H.t.get k := by simp only [Heap.put, T.get_set]
theorem h_gdel : (H.del j).t.get k = if k = j then none else H.t.get k := by simp only [Heap.del, T.get_del]
theorem h_base : (H.push o).base = H.base := rfl
theorem h_bput : (H.put k o).base = H.base := rfl
theorem h_bdel : (H.del k).base = H.base := rfl

/-- a block's cells, of what is found -/
def cellsM : Option Obj → Option (List AV)
  | some (.row cs _ _ _) => some cs
  | _ => none
theorem h_cells : H.cells (.new k) = cellsM (H.t.get k) := by
  show (H.t.get k).bind (·.cells) = _
  cases H.t.get k with
  | none => rfl
  | some o => cases o <;> rfl
theorem h_cellsO : H.cells (.old k) = H.base k := rfl
theorem h_cellsV : H.cells (.val cs) = some cs := rfl
theorem h_nbare : H.bare.n = 0 := rfl
theorem h_gbare : H.bare.t.get k = none := rfl
theorem h_bbare : H.bare.base = H.base := rfl
theorem h_ld1 {p : Blk} : H.ld1 p i = (H.cells p).bind (·[i]?) := rfl
def ldnM (c : Option (List AV)) (i n : Nat) : Option (List AV) := c.bind fun cs => if ((cs.drop i).take n).length = n then some ((cs.drop i).take n) else none
theorem h_ldn {p : Blk} : H.ldn p i n = ldnM (H.cells p) i n := rfl
theorem k_ldn : ldnM (some cs) i n = if ((cs.drop i).take n).length = n then some ((cs.drop i).take n) else none := rfl
def stM (H : Heap) (k i : Nat) (vs : List AV) : Option Obj → Option Heap
  | some (.row cs es false ty) => if i + vs.length ≤ cs.length then some (H.put k (.row (putAt cs i vs) es false ty)) else none
  | _ => none
theorem h_st : H.st (.new k) i vs = stM H k i vs (H.t.get k) := by
  cases h : H.t.get k with
  | none => simp [Heap.st, stM, h]
  | some o =>
    cases o with
    | row cs es fz ty => cases fz <;> simp [Heap.st, stM, h]
    | iter s p => simp [Heap.st, stM, h]
theorem k_st {ty : Option Nat} : stM H k i vs (some (.row cs e false ty)) = if i + vs.length ≤ cs.length then some (H.put k (.row (putAt cs i vs) e false ty)) else none := rfl
theorem k_cells {fz : Bool} {ty : Option Nat} : cellsM (some (.row cs e fz ty)) = some cs := rfl
end

theorem b_ft : (false == true) = false := rfl
theorem b_tf : (true == false) = false := rfl
theorem b_tt : (true == true) = true := rfl
theorem b_ff : (false == false) = true := rfl

theorem fl_bool {b : Bool} : (AV.bool b).flat = true := rfl
theorem fl_int {k : IntKind} {n : Int} : (AV.int k n).flat = true := rfl
theorem fl_str {s : List Nat} : (AV.str s).flat = true := rfl
theorem fl_nilp : AV.nilp.flat = true := rfl
theorem fl_ptr {p : Blk} {o : Nat} : (AV.ptr p o).flat = true := rfl
theorem fl_nils : AV.nils.flat = true := rfl
theorem fl_slice {p : Blk} {o n : Nat} {c : Cap} : (AV.slice p o n c).flat = true := rfl
theorem fl_emp : AV.emp.flat = true := rfl
theorem fl_func {f : FuncId} {cs : List AV} : (AV.func f cs).flat = true := rfl
theorem fl_nilf : AV.nilf.flat = true := rfl
theorem fl_iface {t : TypeId} {v : AV} : (AV.iface t v).flat = true := rfl
theorem fl_nili : AV.nili.flat = true := rfl
theorem cl_agg {cs : List AV} : (AV.agg cs).cells = some cs := rfl
theorem cl_flat {v : AV} (h : v.flat = true) : v.cells = some [v] := by
  cases v <;> first | rfl | (simp [AV.flat] at h; done)

/-! ### Numbers of blocks -/

theorem n_lt0_2 (n : Nat) : (n = n + 1 + 1) = False := by simp; omega
theorem n_gt0_2 (n : Nat) : (n + 1 + 1 = n) = False := by simp; omega
theorem n_lt0_3 (n : Nat) : (n = n + 1 + 1 + 1) = False := by simp; omega
theorem n_gt0_3 (n : Nat) : (n + 1 + 1 + 1 = n) = False := by simp; omega
theorem n_lt0_4 (n : Nat) : (n = n + 1 + 1 + 1 + 1) = False := by simp; omega
theorem n_gt0_4 (n : Nat) : (n + 1 + 1 + 1 + 1 = n) = False := by simp; omega
theorem n_lt0_5 (n : Nat) : (n = n + 1 + 1 + 1 + 1 + 1) = False := by simp; omega
theorem n_gt0_5 (n : Nat) : (n + 1 + 1 + 1 + 1 + 1 = n) = False := by simp; omega
theorem n_lt0_6 (n : Nat) : (n = n + 1 + 1 + 1 + 1 + 1 + 1) = False := by simp; omega
theorem n_gt0_6 (n : Nat) : (n + 1 + 1 + 1 + 1 + 1 + 1 = n) = False := by simp; omega

/-! ### What a run gives -/

/-- It comes to a value, and to a heap. -/
def Gives (r : R) (Q : AV → Heap → Prop) : Prop := ∃ v H', r = some (.ret v, H') ∧ Q v H'

theorem gives_ret {v : AV} {H : Heap} {Q : AV → Heap → Prop} : Gives (some (.ret v, H)) Q = Q v H := by
  apply propext
  constructor
  · rintro ⟨v', H', h, hq⟩
    simp only [Option.some.injEq, Prod.mk.injEq, Out.ret.injEq] at h
    obtain ⟨rfl, rfl⟩ := h
    exact hq
  · exact fun h => ⟨v, H, rfl, h⟩

theorem Gives.mono {r : R} {Q Q' : AV → Heap → Prop} (h : Gives r Q) (hq : ∀ v H', Q v H' → Q' v H') : Gives r Q' := by
  obtain ⟨v, H', h1, h2⟩ := h
  exact ⟨v, H', h1, hq v H' h2⟩

theorem gives_call {r : R} {call : CallF} {d : Option Nat} {l : List SOper} {fr : Fr} {K : Fr → Heap → R} {Q Q' : AV → Heap → Prop} (h : Gives r Q') (hk : ∀ v H', Q' v H' → Gives (runOps call l (fr.put d v) H' K) Q) :
    Gives (stepC r call d l fr K) Q := by
  obtain ⟨v, H', rfl, h2⟩ := h
  rw [k_c]
  exact hk v H' h2

/-- What was there is there. -/
structure Heap.le (H H' : Heap) : Prop where
  n : H.n ≤ H'.n
  get : ∀ k, k < H.n → H'.t.get k = H.t.get k
  base : H'.base = H.base

theorem Heap.le_refl (H : Heap) : H.le H := ⟨Nat.le_refl _, fun _ _ => rfl, rfl⟩
theorem Heap.le.trans {A B C : Heap} (h : A.le B) (k : B.le C) : A.le C :=
  ⟨Nat.le_trans h.n k.n, fun i hi => (k.get i (Nat.lt_of_lt_of_le hi h.n)).trans (h.get i hi), k.base.trans h.base⟩
theorem Heap.le.push {A B : Heap} (h : A.le B) (o : Obj) : A.le (B.push o) :=
  ⟨Nat.le_succ_of_le h.n, fun i hi => by rw [h_get, if_neg (by have := h.n; omega)]; exact h.get i hi, h.base⟩
theorem Heap.le.put {A B : Heap} (h : A.le B) {k : Nat} (hk : A.n ≤ k) (o : Obj) : A.le (B.put k o) :=
  ⟨h.n, fun i hi => by rw [h_gput, if_neg (by omega)]; exact h.get i hi, h.base⟩
theorem Heap.le.del {A B : Heap} (h : A.le B) {k : Nat} (hk : A.n ≤ k) : A.le (B.del k) :=
  ⟨h.n, fun i hi => by rw [h_gdel, if_neg (by omega)]; exact h.get i hi, h.base⟩

theorem k_taken {H : Heap} {size o n : Nat} {p : Blk} {c : Cap} : taken size H (.slice p o n c) = (H.ldn p o (n * size)).map fun cs => (n, cs) := rfl

/-- bytes as cells -/
def bytes (s : List Nat) : List AV := s.map fun (b : Nat) => AV.int .u8 (b : Int)

theorem bytes_len (s : List Nat) : (bytes s).length = s.length := by simp [bytes]
theorem bytes_append (s t : List Nat) : bytes (s ++ t) = bytes s ++ bytes t := by simp [bytes]
theorem bytes_flat (s : List Nat) : (bytes s).all AV.flat = true := by simp [bytes, AV.flat]

theorem bytesOf_bytes : ∀ (s : List Nat), (∀ b ∈ s, b < 256) → bytesOf (bytes s) = some s
  | [], _ => rfl
  | b :: s, h => by
    have hb : b < 256 := h b (by simp)
    have ih := bytesOf_bytes s (fun c hc => h c (by simp [hc]))
    show (if b < 256 then (bytesOf (bytes s)).map (b :: ·) else none) = _
    rw [if_pos hb, ih]; rfl

theorem taken_str {H : Heap} {t : List Nat} : taken 1 H (.str t) = some (t.length, bytes t) := rfl

section
variable {H : Heap} {e : Nat} {s t : List Nat} {j : Nat}

theorem app_none : appendOf e 1 1 H .nils (0, bytes []) = some (.nils, H) := by
  simp [appendOf, bytes]

theorem app_nils (ht : t ≠ []) (hl : t.length ≤ 1099511627776) : appendOf e 1 1 H .nils (t.length, bytes t) = some (.slice (.new H.n) 0 t.length (.gro 1), H.push (.row (bytes t) 1 false (some e))) := by
  unfold appendOf
  rw [if_neg (by simp [bytes_flat])]
  simp only
  rw [if_neg (by simpa using ht), if_pos (by simp; omega)]
  rfl

theorem app_none2 {p : Blk} {o n : Nat} {c : Cap} : appendOf e 1 1 H (.slice p o n c) (0, bytes []) = some (.slice p o n c, H) := by
  simp [appendOf, bytes]

theorem app_more (ht : t ≠ []) (hl : s.length + t.length ≤ 1099511627776) (hj : H.t.get j = some (.row (bytes s) 1 false (some e))) :
    appendOf e 1 1 H (.slice (.new j) 0 s.length (.gro 1)) (t.length, bytes t) = some (.slice (.new H.n) 0 (s.length + t.length) (.gro 1), (H.del j).push (.row (bytes (s ++ t)) 1 false (some e))) := by
  unfold appendOf
  rw [if_neg (by simp [bytes_flat])]
  simp only
  rw [if_neg (by simpa using ht), if_pos (by simp; omega)]
  simp only [hj, if_true]
  rw [if_pos (by simp [bytes_len])]
  simp only [Heap.fresh, tyKeep, List.drop_zero, ← bytes_append, Nat.beq_refl, Bool.and_self, cond_true]
  rfl
end

end Go.Lite
