/-
  Several texts in one: LSim, LVal, LSimB, LSimC, LClone, LAcc, LArgs, LMono.
-/
import Derived.Test.YtmfdlglhngmacaaGreatDoorUC
import Derived.ProofKit
import Derived.OpenShut
import Derived.ShutString

set_option linter.unusedSimpArgs false
set_option linter.unusedVariables false
set_option linter.defProp false
set_option maxRecDepth 100000

/-
  The interpreter, step by step, as rewriting: what comes next is held in named functions, so that nothing is looked at ahead of its time.
-/
namespace Go.Lite
open Go
/-! ### What comes next -/
def stepK (r : Option AV) (call : CallF) (d : Option Nat) (l : List SOper) (fr : Fr) (H : Heap) (K : Fr → Heap → R) : R := r.bind fun v => runOps call l (fr.put d v) H K
def stepA (r : Option (Obj × AV)) (call : CallF) (d : Option Nat) (l : List SOper) (fr : Fr) (H : Heap) (K : Fr → Heap → R) : R := r.bind fun q => runOps call l (fr.put d q.2) (H.push q.1) K
def stepW (r : Option (AV × Heap)) (call : CallF) (d : Option Nat) (l : List SOper) (fr : Fr) (K : Fr → Heap → R) : R := r.bind fun q => runOps call l (fr.put d q.1) q.2 K
def stepC (r : R) (call : CallF) (d : Option Nat) (l : List SOper) (fr : Fr) (K : Fr → Heap → R) : R := bindR r fun v H => runOps call l (fr.put d v) H K
def stepP (v : AV) (H : Heap) : R := match v with | .iface t v => some (.panic (.iface t v), H) | _ => none
def stepG (t : Option Bool) (call : CallF) (d : Option Nat) (o : SOp) (l : List SOper) (fr : Fr) (H : Heap) (K : Fr → Heap → R) : R :=
  t.bind fun t => bif t then runOps call (⟨d, none, o⟩ :: l) fr H K else runOps call l (fr.put d skipped) H K
def seqK (call : CallF) (n : Nat) (b : SCode) (K : Ex → Fr → Heap → R) : Ex → Fr → Heap → R := fun e fr' H' => match e with
  | .normal => b.run call n fr' H' K
  | e => K e fr' H'
def blockK (id : Nat) (K : Ex → Fr → Heap → R) : Ex → Fr → Heap → R := fun e fr' H' => match e with
  | .exit i => bif Nat.beq i id then K .normal fr' H' else K (.exit i) fr' H'
  | e => K e fr' H'
def condK (t : Option Bool) (call : CallF) (n : Nat) (a b : SCode) (fr : Fr) (H : Heap) (K : Ex → Fr → Heap → R) : R := t.bind fun t => bif t then a.run call n fr H K else b.run call n fr H K
def loopK (call : CallF) (n : Nat) (c : SCode) (m : Nat) (K : Ex → Fr → Heap → R) : Ex → Fr → Heap → R := fun e fr' H' => match e with
  | .normal => loopN (fun fr H K => c.run call n fr H K) m fr' H' K
  | e => K e fr' H'
def loopR (call : CallF) (n : Nat) (c : SCode) (m : Nat) (fr : Fr) (H : Heap) (K : Ex → Fr → Heap → R) : R := loopN (fun fr H K => c.run call n fr H K) m fr H K
def phsK (call : CallF) (l : List (SOper × List SOper × List SOper)) (K : Fr → Heap → R) : Fr → Heap → R := fun fr H => runPhs call l fr H K
def ckK (call : CallF) (cks sm : List SOper) (l : List (SOper × List SOper × List SOper)) (K : Fr → Heap → R) : Fr → Heap → R := fun fr H =>
  bif cks.all (·.again fr H) then runOps call sm fr H fun fr H => runPhs call l fr H K else none
def ckB (b : Bool) (call : CallF) (sm : List SOper) (l : List (SOper × List SOper × List SOper)) (fr : Fr) (H : Heap) (K : Fr → Heap → R) : R :=
  bif b then runOps call sm fr H (phsK call l K) else none
section
variable {call : CallF} {n m : Nat} {d : Option Nat} {l : List SOper} {fr : Fr} {H H' : Heap} {K : Fr → Heap → R} {KK : Ex → Fr → Heap → R} {v : AV} {o : Obj} {a b : SCode} {t : Nat}
theorem s_nil : runOps call [] fr H K = K fr H := rfl
theorem s_p {q : POp} : runOps call (⟨d, none, .p q⟩ :: l) fr H K = stepK (q.val fr H) call d l fr H K := rfl
theorem s_a {q : AOp} : runOps call (⟨d, none, .a q⟩ :: l) fr H K = stepA (q.val fr H.n) call d l fr H K := rfl
theorem s_w {q : WOp} : runOps call (⟨d, none, .w q⟩ :: l) fr H K = stepW (q.val fr H) call d l fr K := rfl
theorem s_c {f : SX} {as : List SX} : runOps call (⟨d, none, .call f as⟩ :: l) fr H K = stepC (callV call (f.ev fr) (as.map (·.ev fr)) H) call d l fr K := rfl
theorem s_pa {x : SX} : runOps call (⟨d, none, .panic x⟩ :: l) fr H K = stepP (x.ev fr) H := by
  simp only [runOps, SOper.run, wants, SOp.run, stepP, Option.bind_some, cond_true]
  cases x.ev fr <;> rfl
theorem s_g {q : SOp} {c : Bool} : runOps call (⟨d, some (t, c), q⟩ :: l) fr H K = stepG (wants fr (some (t, c))) call d q l fr H K := rfl
theorem k_p : stepK (some v) call d l fr H K = runOps call l (fr.put d v) H K := rfl
theorem k_a : stepA (some (o, v)) call d l fr H K = runOps call l (fr.put d v) (H.push o) K := rfl
theorem k_w : stepW (some (v, H')) call d l fr K = runOps call l (fr.put d v) H' K := rfl
theorem k_c : stepC (some (.ret v, H')) call d l fr K = runOps call l (fr.put d v) H' K := rfl
theorem k_cp : stepC (some (.panic v, H')) call d l fr K = some (.panic v, H') := rfl
theorem k_gt {q : SOp} : stepG (some true) call d q l fr H K = runOps call (⟨d, none, q⟩ :: l) fr H K := rfl
theorem k_gf {q : SOp} : stepG (some false) call d q l fr H K = runOps call l (fr.put d skipped) H K := rfl
theorem s_skip : SCode.run call n .skip fr H KK = KK .normal fr H := by simp only [SCode.run]
theorem s_ops : SCode.run call n (.ops l) fr H KK = runOps call l fr H (KK .normal) := by simp only [SCode.run]
theorem s_draw {phs : List (SOper × List SOper × List SOper)} : SCode.run call n (.draw l phs) fr H KK = runOps call l fr H (phsK call phs (KK .normal)) := by simp only [SCode.run]; rfl
def pairG (t : Bool) (call : CallF) (a b : SOper) (fr : Fr) (H : Heap) (K : Fr → Heap → R) : R := bif t then runOps call [a, b] fr H K else none
def pairK (call : CallF) (a b : SOper) (K : Fr → Heap → R) : Fr → Heap → R := fun fr H => pairG (asunder a b fr) call a b fr H K
theorem s_draw2 {phs : List (SOper × List SOper × List SOper)} {x y : SOper} : SCode.run call n (.draw2 l phs x y) fr H KK = runOps call l fr H (phsK call phs (pairK call x y (KK .normal))) := by simp only [SCode.run]; rfl
theorem s_pair {x y : SOper} {K : Fr → Heap → R} : pairK call x y K fr H = pairG (asunder x y fr) call x y fr H K := rfl
theorem k_pair {x y : SOper} {K : Fr → Heap → R} : pairG true call x y fr H K = runOps call [x, y] fr H K := rfl
theorem s_seq : SCode.run call n (.seq a b) fr H KK = a.run call n fr H (seqK call n b KK) := by simp only [SCode.run]; rfl
theorem s_cond {x : SX} : SCode.run call n (.cond x a b) fr H KK = condK ((x.ev fr).asBool) call n a b fr H KK := by simp only [SCode.run]; rfl
theorem s_block : SCode.run call n (.block t a) fr H KK = a.run call n fr H (blockK t KK) := by simp only [SCode.run]; rfl
theorem s_loop : SCode.run call n (.loop a) fr H KK = loopR call n a n fr H KK := by simp only [SCode.run]; rfl
theorem s_exit : SCode.run call n (.exit t) fr H KK = KK (.exit t) fr H := by simp only [SCode.run]
theorem s_ret : SCode.run call n .ret fr H KK = KK .ret fr H := by simp only [SCode.run]
theorem k_seqN : seqK call n b KK .normal fr H = b.run call n fr H KK := rfl
theorem k_seqE : seqK call n b KK (.exit t) fr H = KK (.exit t) fr H := rfl
theorem k_seqR : seqK call n b KK .ret fr H = KK .ret fr H := rfl
theorem k_blockN : blockK t KK .normal fr H = KK .normal fr H := rfl
theorem k_blockR : blockK t KK .ret fr H = KK .ret fr H := rfl
theorem k_condT : condK (some true) call n a b fr H KK = a.run call n fr H KK := rfl
theorem k_condF : condK (some false) call n a b fr H KK = b.run call n fr H KK := rfl
theorem k_loopN : loopK call n a m KK .normal fr H = loopR call n a m fr H KK := rfl
theorem k_loopE : loopK call n a m KK (.exit t) fr H = KK (.exit t) fr H := rfl
theorem k_loopR : loopK call n a m KK .ret fr H = KK .ret fr H := rfl
theorem loop_succ : loopR call n a (m + 1) fr H KK = a.run call n fr H (loopK call n a m KK) := rfl
theorem s_phs {w : SOper} {c sm : List SOper} {phs : List (SOper × List SOper × List SOper)} : phsK call ((w, c, sm) :: phs) K fr H = runOps call [w] fr H (ckK call c sm phs K) := rfl
theorem s_phs0 : phsK call [] K fr H = K fr H := rfl
theorem s_ck {c sm : List SOper} {phs : List (SOper × List SOper × List SOper)} : ckK call c sm phs K fr H = ckB (c.all (·.again fr H)) call sm phs fr H K := rfl
theorem k_ck {sm : List SOper} {phs : List (SOper × List SOper × List SOper)} : ckB true call sm phs fr H K = runOps call sm fr H (phsK call phs K) := rfl
theorem beq_lit (s t : Nat) : Nat.beq s t = (s == t) := by
  rw [Bool.eq_iff_iff]
  simp
theorem k_blockE {i : Nat} : blockK t KK (.exit i) fr H = bif i == t then KK .normal fr H else KK (.exit i) fr H := by
  rw [← beq_lit]; rfl
/-! ### A slice's length -/
def lenM : AV → Option AV
  | .slice _ _ n _ => some (.int .i64 n)
  | .nils => some (.int .i64 0)
  | .emp => some (.int .i64 0)
  | .lst _ n _ _ => some (.int .i64 n)
  | _ => none
theorem v_lenS {x : SX} : (POp.lenS x).val fr H = lenM (x.ev fr) := by
  simp only [POp.val]
  cases x.ev fr <;> rfl
theorem k_len1 {p : Blk} {o n : Nat} {c : Cap} : lenM (.slice p o n c) = some (.int .i64 n) := rfl
theorem k_len2 : lenM .nils = some (.int .i64 0) := rfl
theorem k_len3 : lenM .emp = some (.int .i64 0) := rfl
theorem k_len4 {es n : Nat} {f : Bool} {cs : List AV} : lenM (.lst es n f cs) = some (.int .i64 n) := rfl
/-! ### Frames -/
theorem fr_put {v : AV} : fr.put (some t) v = fr.set t v := rfl
theorem fr_put0 {v : AV} : fr.put none v = fr := rfl
theorem fr_get {v : AV} {s : Nat} : (fr.set t v) s = bif s == t then v else fr s := by
  rw [← beq_lit]; rfl
theorem ev_tmp : SX.ev fr (.tmp t) = fr t := rfl
theorem ev_lit : SX.ev fr (.lit v) = v := rfl
theorem Fr.eta (fr : Fr) (t : Nat) : fr = fr.set t (fr t) := by
  funext s
  simp only [Fr.set]
  cases h : Nat.beq s t with
  | false => rfl
  | true => rw [Nat.eq_of_beq_eq_true h]; rfl
end
theorem init_get (xs : List AV) (t : Nat) : initFr xs t = (xs[t]?).getD .undef := rfl
theorem callN_code {P : Prg} {n : Nat} {f : FuncId} {xs : List AV} {H : Heap} {sf : SFunc} (ho : P.own f = none) (hc : P.code f = some sf) (hs : P.mode f = 0) (hl : Nat.ble xs.length sf.nt = true) :
    callN P (n + 1) f xs H = sf.body.run (callN P n) n (initFr xs) H (finish sf.res) := by
  simp only [callN, ho, hc, hl, hs, cond_true]
theorem callN_own {P : Prg} {n : Nat} {f : FuncId} {xs : List AV} {H : Heap} {g : List AV → Heap → R} (ho : P.own f = some g) : callN P (n + 1) f xs H = g xs H := by
  simp only [callN, ho]
theorem fin_ret {res : List ResV} {fr : Fr} {H : Heap} : finish res .ret fr H = (resVals fr H res).map fun vs => (.ret (oneOr vs), H) := rfl
theorem fin_norm {res : List ResV} {fr : Fr} {H : Heap} : finish res .normal fr H = (resVals fr H res).map fun vs => (.ret (oneOr vs), H) := rfl
/-! ### The heap -/
section
variable {H : Heap} {o : Obj} {j k i n e : Nat} {vs cs : List AV}
theorem h_n : (H.push o).n = H.n + 1 := rfl
theorem h_nput : (H.put k o).n = H.n := rfl
theorem h_ndel : (H.del k).n = H.n := rfl
theorem h_get : (H.push o).t.get k = if k = H.n then some o else H.t.get k := by simp only [Heap.push, T.get_set]
theorem h_gput : (H.put j o).t.get k = if k = j then some o else H.t.get k := by simp only [Heap.put, T.get_set]
theorem h_gdel : (H.del j).t.get k = if k = j then none else H.t.get k := by simp only [Heap.del, T.get_del]
theorem h_base : (H.push o).base = H.base := rfl
theorem h_bput : (H.put k o).base = H.base := rfl
theorem h_bdel : (H.del k).base = H.base := rfl
def cellsM : Option Obj → Option (List AV)
  | some (.row cs _ _ _) => some cs
  | _ => none
theorem h_cells : H.cells (.new k) = cellsM (H.t.get k) := by
  show (H.t.get k).bind (·.cells) = _
  cases H.t.get k with
  | none => rfl
  | some o => cases o <;> rfl
theorem h_cellsO : H.cells (.old k) = H.base k := rfl
theorem h_cellsV : H.cells (.val cs) = some cs := rfl
theorem h_nbare : H.bare.n = 0 := rfl
theorem h_gbare : H.bare.t.get k = none := rfl
theorem h_bbare : H.bare.base = H.base := rfl
theorem h_ld1 {p : Blk} : H.ld1 p i = (H.cells p).bind (·[i]?) := rfl
def ldnM (c : Option (List AV)) (i n : Nat) : Option (List AV) := c.bind fun cs => if ((cs.drop i).take n).length = n then some ((cs.drop i).take n) else none
theorem h_ldn {p : Blk} : H.ldn p i n = ldnM (H.cells p) i n := rfl
theorem k_ldn : ldnM (some cs) i n = if ((cs.drop i).take n).length = n then some ((cs.drop i).take n) else none := rfl
def stM (H : Heap) (k i : Nat) (vs : List AV) : Option Obj → Option Heap
  | some (.row cs es false ty) => if i + vs.length ≤ cs.length then some (H.put k (.row (putAt cs i vs) es false ty)) else none
  | _ => none
theorem h_st : H.st (.new k) i vs = stM H k i vs (H.t.get k) := by
  cases h : H.t.get k with
  | none => simp [Heap.st, stM, h]
  | some o =>
    cases o with
    | row cs es fz ty => cases fz <;> simp [Heap.st, stM, h]
    | iter s p => simp [Heap.st, stM, h]
theorem k_st {ty : Option Nat} : stM H k i vs (some (.row cs e false ty)) = if i + vs.length ≤ cs.length then some (H.put k (.row (putAt cs i vs) e false ty)) else none := rfl
theorem k_cells {fz : Bool} {ty : Option Nat} : cellsM (some (.row cs e fz ty)) = some cs := rfl
end
theorem b_ft : (false == true) = false := rfl
theorem b_tf : (true == false) = false := rfl
theorem b_tt : (true == true) = true := rfl
theorem b_ff : (false == false) = true := rfl
theorem fl_bool {b : Bool} : (AV.bool b).flat = true := rfl
theorem fl_int {k : IntKind} {n : Int} : (AV.int k n).flat = true := rfl
theorem fl_str {s : List Nat} : (AV.str s).flat = true := rfl
theorem fl_nilp : AV.nilp.flat = true := rfl
theorem fl_ptr {p : Blk} {o : Nat} : (AV.ptr p o).flat = true := rfl
theorem fl_nils : AV.nils.flat = true := rfl
theorem fl_slice {p : Blk} {o n : Nat} {c : Cap} : (AV.slice p o n c).flat = true := rfl
theorem fl_emp : AV.emp.flat = true := rfl
theorem fl_func {f : FuncId} {cs : List AV} : (AV.func f cs).flat = true := rfl
theorem fl_nilf : AV.nilf.flat = true := rfl
theorem fl_iface {t : TypeId} {v : AV} : (AV.iface t v).flat = true := rfl
theorem fl_nili : AV.nili.flat = true := rfl
theorem cl_agg {cs : List AV} : (AV.agg cs).cells = some cs := rfl
theorem cl_flat {v : AV} (h : v.flat = true) : v.cells = some [v] := by
  cases v <;> first | rfl | (simp [AV.flat] at h; done)
/-! ### Numbers of blocks -/
theorem n_lt0_2 (n : Nat) : (n = n + 1 + 1) = False := by simp; omega
theorem n_gt0_2 (n : Nat) : (n + 1 + 1 = n) = False := by simp; omega
theorem n_lt0_3 (n : Nat) : (n = n + 1 + 1 + 1) = False := by simp; omega
theorem n_gt0_3 (n : Nat) : (n + 1 + 1 + 1 = n) = False := by simp; omega
theorem n_lt0_4 (n : Nat) : (n = n + 1 + 1 + 1 + 1) = False := by simp; omega
theorem n_gt0_4 (n : Nat) : (n + 1 + 1 + 1 + 1 = n) = False := by simp; omega
theorem n_lt0_5 (n : Nat) : (n = n + 1 + 1 + 1 + 1 + 1) = False := by simp; omega
theorem n_gt0_5 (n : Nat) : (n + 1 + 1 + 1 + 1 + 1 = n) = False := by simp; omega
theorem n_lt0_6 (n : Nat) : (n = n + 1 + 1 + 1 + 1 + 1 + 1) = False := by simp; omega
theorem n_gt0_6 (n : Nat) : (n + 1 + 1 + 1 + 1 + 1 + 1 = n) = False := by simp; omega
/-! ### What a run gives -/
def Gives (r : R) (Q : AV → Heap → Prop) : Prop := ∃ v H', r = some (.ret v, H') ∧ Q v H'
theorem gives_ret {v : AV} {H : Heap} {Q : AV → Heap → Prop} : Gives (some (.ret v, H)) Q = Q v H := by
  apply propext
  constructor
  · rintro ⟨v', H', h, hq⟩
    simp only [Option.some.injEq, Prod.mk.injEq, Out.ret.injEq] at h
    obtain ⟨rfl, rfl⟩ := h
    exact hq
  · exact fun h => ⟨v, H, rfl, h⟩
theorem Gives.mono {r : R} {Q Q' : AV → Heap → Prop} (h : Gives r Q) (hq : ∀ v H', Q v H' → Q' v H') : Gives r Q' := by
  obtain ⟨v, H', h1, h2⟩ := h
  exact ⟨v, H', h1, hq v H' h2⟩
theorem gives_call {r : R} {call : CallF} {d : Option Nat} {l : List SOper} {fr : Fr} {K : Fr → Heap → R} {Q Q' : AV → Heap → Prop} (h : Gives r Q') (hk : ∀ v H', Q' v H' → Gives (runOps call l (fr.put d v) H' K) Q) :
    Gives (stepC r call d l fr K) Q := by
  obtain ⟨v, H', rfl, h2⟩ := h
  rw [k_c]
  exact hk v H' h2
structure Heap.le (H H' : Heap) : Prop where
  n : H.n ≤ H'.n
  get : ∀ k, k < H.n → H'.t.get k = H.t.get k
  base : H'.base = H.base
theorem Heap.le_refl (H : Heap) : H.le H := ⟨Nat.le_refl _, fun _ _ => rfl, rfl⟩
theorem Heap.le.trans {A B C : Heap} (h : A.le B) (k : B.le C) : A.le C :=
  ⟨Nat.le_trans h.n k.n, fun i hi => (k.get i (Nat.lt_of_lt_of_le hi h.n)).trans (h.get i hi), k.base.trans h.base⟩
theorem Heap.le.push {A B : Heap} (h : A.le B) (o : Obj) : A.le (B.push o) :=
  ⟨Nat.le_succ_of_le h.n, fun i hi => by rw [h_get, if_neg (by have := h.n; omega)]; exact h.get i hi, h.base⟩
theorem Heap.le.put {A B : Heap} (h : A.le B) {k : Nat} (hk : A.n ≤ k) (o : Obj) : A.le (B.put k o) :=
  ⟨h.n, fun i hi => by rw [h_gput, if_neg (by omega)]; exact h.get i hi, h.base⟩
theorem Heap.le.del {A B : Heap} (h : A.le B) {k : Nat} (hk : A.n ≤ k) : A.le (B.del k) :=
  ⟨h.n, fun i hi => by rw [h_gdel, if_neg (by omega)]; exact h.get i hi, h.base⟩
theorem k_taken {H : Heap} {size o n : Nat} {p : Blk} {c : Cap} : taken size H (.slice p o n c) = (H.ldn p o (n * size)).map fun cs => (n, cs) := rfl
def bytes (s : List Nat) : List AV := s.map fun (b : Nat) => AV.int .u8 (b : Int)
theorem bytes_len (s : List Nat) : (bytes s).length = s.length := by simp [bytes]
theorem bytes_append (s t : List Nat) : bytes (s ++ t) = bytes s ++ bytes t := by simp [bytes]
theorem bytes_flat (s : List Nat) : (bytes s).all AV.flat = true := by simp [bytes, AV.flat]
theorem bytesOf_bytes : ∀ (s : List Nat), (∀ b ∈ s, b < 256) → bytesOf (bytes s) = some s
  | [], _ => rfl
  | b :: s, h => by
    have hb : b < 256 := h b (by simp)
    have ih := bytesOf_bytes s (fun c hc => h c (by simp [hc]))
    show (if b < 256 then (bytesOf (bytes s)).map (b :: ·) else none) = _
    rw [if_pos hb, ih]; rfl
theorem taken_str {H : Heap} {t : List Nat} : taken 1 H (.str t) = some (t.length, bytes t) := rfl
section
variable {H : Heap} {e : Nat} {s t : List Nat} {j : Nat}
end
end Go.Lite

/-
  Sealed calls by rewriting: what a function returns, whatever the heap; loops over lists; lists that grow.
-/
namespace Go.Lite
open Go
/-! ### With enough rounds -/
def Ev (p : Nat → Prop) : Prop := ∃ N, ∀ n, N ≤ n → p n
theorem Ev.of {p : Nat → Prop} (h : ∀ n, p n) : Ev p := ⟨0, fun n _ => h n⟩
theorem Ev.mono {p q : Nat → Prop} (h : Ev p) (k : ∀ n, p n → q n) : Ev q := h.imp fun N hN n hn => k n (hN n hn)
theorem Ev.and {p q : Nat → Prop} (h : Ev p) (k : Ev q) : Ev fun n => p n ∧ q n := by
  obtain ⟨N, hN⟩ := h
  obtain ⟨M, hM⟩ := k
  exact ⟨N + M, fun n hn => ⟨hN n (by omega), hM n (by omega)⟩⟩
theorem Ev.ge (k : Nat) : Ev fun n => k ≤ n := ⟨k, fun n hn => hn⟩
theorem Ev.succ {p : Nat → Prop} (h : Ev fun n => p (n + 1)) : Ev p := by
  obtain ⟨N, hN⟩ := h
  refine ⟨N + 1, fun n hn => ?_⟩
  obtain ⟨m, rfl⟩ : ∃ m, n = m + 1 := ⟨n - 1, by omega⟩
  exact hN m (by omega)
theorem Ev.shift {p : Nat → Prop} (h : Ev p) : Ev fun n => p (n + 1) := by
  obtain ⟨N, hN⟩ := h
  exact ⟨N, fun n hn => hN (n + 1) (by omega)⟩
theorem Ev.all {α : Type} {p : α → Nat → Prop} : ∀ (l : List α), (∀ x ∈ l, Ev (p x)) → Ev fun n => ∀ x ∈ l, p x n
  | [], _ => Ev.of fun n x hx => by cases hx
  | x :: l, h => ((h x (by simp)).and (Ev.all l fun y hy => h y (by simp [hy]))).mono fun n hn y hy => by
    rcases List.mem_cons.1 hy with e | e
    · rw [e]; exact hn.1
    · exact hn.2 y e
def Ret (P : Prg) (f : FuncId) (xs : List AV) (v : AV) : Prop := Ev fun n => ∀ H, callN P n f xs H = some (.ret v, H)
def Ends (r : R) (v : AV) : Prop := Gives r fun v0 H' => ∃ H'', shutV v0 H' = some (v, H'')
theorem Ret.of {P : Prg} {f : FuncId} {xs : List AV} {v : AV} {sf : SFunc} (ho : P.own f = none) (hc : P.code f = some sf) (hs : P.mode f = 2) (hl : Nat.ble xs.length sf.nt = true) (ha : ∀ H, mapHM shutV xs H = some (xs, H))
    (h : Ev fun n => ∀ H : Heap, Ends (sf.body.run (callN P n) n (initFr xs) H.bare (finish sf.res)) v) : Ret P f xs v := by
  refine Ev.succ (h.mono fun n hn H => ?_)
  obtain ⟨v0, H', h1, H'', h2⟩ := hn H
  simp only [callN, ho, hc, hl, hs, cond_true, ha, Option.bind_some, h1, opened, h2, Option.map_some]
def callS (P : Prg) (n : Nat) (f : FuncId) : Option (List AV × Heap) → R
  | some (ys, H) => callN P n f ys H
  | none => none
theorem k_callS {P : Prg} {n : Nat} {f : FuncId} {ys : List AV} {H : Heap} : callS P n f (some (ys, H)) = callN P n f ys H := rfl
theorem shutC_L {f : Bool} {es n d : Nat} {cs : List AV} {H : Heap} : shutC d (.L f es cs n) H = some (.L f es cs n, H) := by
  cases n <;> cases d <;> rfl
def Told (f : AV → Heap → Option (AV × Heap)) : Prop := ∀ x H y H', f x H = some (y, H') → ∀ H2, f y H2 = some (y, H2)
theorem mapHM_told {f : AV → Heap → Option (AV × Heap)} (hf : Told f) : ∀ (xs : List AV) (H : Heap) (ys : List AV) (H' : Heap), mapHM f xs H = some (ys, H') → ∀ H2, mapHM f ys H2 = some (ys, H2)
  | [], H, ys, H', h, H2 => by
    simp only [mapHM, Option.some.injEq, Prod.mk.injEq] at h
    obtain ⟨rfl, rfl⟩ := h
    rfl
  | x :: xs, H, ys, H', h, H2 => by
    simp only [mapHM, Option.bind_eq_some_iff, Option.map_eq_some_iff, Prod.mk.injEq] at h
    obtain ⟨⟨y, H1⟩, h1, ⟨zs, H3⟩, h2, rfl, rfl⟩ := h
    simp only [mapHM, hf x H y H1 h1 H2, Option.bind_some, mapHM_told hf xs H1 zs H3 h2 H2, Option.map_some]
theorem canon_told {x y : AV} (h : canon x = some y) : ∀ d H, shutC d y H = some (y, H) := by
  have key : canon y = some y ∧ ∀ k o n c, y ≠ .slice (.new k) o n c := by
    unfold canon at h
    split at h
    · simp only [Option.some.injEq] at h; subst h; exact ⟨rfl, by simp⟩
    · simp only [Option.some.injEq] at h; subst h; exact ⟨rfl, by simp⟩
    · rename_i es n f cs
      simp only [Option.some.injEq] at h; subst h
      cases n <;> exact ⟨rfl, by simp [AV.L]⟩
    · split at h
      case isFalse => cases h
      rename_i hp
      simp only [Option.some.injEq] at h; subst h
      refine ⟨?_, fun k o n c e => by subst e; simp [AV.pure, Blk.pure] at hp⟩
      unfold canon
      split
      · rename_i hno _ _; exact (hno rfl).elim
      · rename_i hno _; exact (hno rfl).elim
      · rename_i hno; exact (hno _ _ _ _ rfl).elim
      · rw [if_pos hp]
  intro d H
  cases d with
  | zero => simp only [shutC, key.1, Option.map_some]
  | succ d =>
    unfold shutC
    split
    · exact absurd rfl (key.2 _ _ _ _)
    · simp only [key.1, Option.map_some]
theorem shutC_told : ∀ d, ∀ x H y H', shutC d x H = some (y, H') → ∀ d2 H2, shutC d2 y H2 = some (y, H2)
  | 0 => fun x H y H' h d2 H2 => by
    simp only [shutC, Option.map_eq_some_iff, Prod.mk.injEq] at h
    obtain ⟨z, hz, rfl, _⟩ := h
    exact canon_told hz d2 H2
  | d + 1 => fun x H y H' h d2 H2 => by
    simp only [shutC] at h
    split at h
    · unfold shutRow at h
      split at h
      case h_2 => cases h
      split at h
      case isFalse => cases h
      simp only [Option.map_eq_some_iff, Prod.mk.injEq] at h
      obtain ⟨⟨zs, H3⟩, hz, rfl, _⟩ := h
      exact shutC_L
    · simp only [Option.map_eq_some_iff, Prod.mk.injEq] at h
      obtain ⟨z, hz, rfl, _⟩ := h
      exact canon_told hz d2 H2
theorem shutC4_told : Told (shutC 2048) := fun x H y H' h H2 => shutC_told 2048 x H y H' h 2048 H2
def AV.one : AV → Bool
  | .agg _ | .func _ _ | .tuple _ | .iface _ _ => false
  | _ => true
theorem L_one {f : Bool} {es n : Nat} {cs : List AV} : (AV.L f es cs n).one = true := by cases n <;> rfl
theorem shutC_one {d : Nat} {x y : AV} {H H' : Heap} (h : shutC d x H = some (y, H')) (hx : x.one = true) : y.one = true := by
  have key : ∀ {z : AV}, canon x = some z → z.one = true := fun {z} hz => by
    unfold canon at hz
    split at hz
    · simp only [Option.some.injEq] at hz; subst hz; rfl
    · simp only [Option.some.injEq] at hz; subst hz; rfl
    · rename_i es n f cs
      simp only [Option.some.injEq] at hz; subst hz
      cases n <;> rfl
    · split at hz
      case isFalse => cases hz
      simp only [Option.some.injEq] at hz; subst hz
      exact hx
  cases d with
  | zero =>
    simp only [shutC, Option.map_eq_some_iff, Prod.mk.injEq] at h
    obtain ⟨z, hz, rfl, _⟩ := h
    exact key hz
  | succ d =>
    unfold shutC at h
    split at h
    · unfold shutRow at h
      split at h
      case h_2 => cases h
      split at h
      case isFalse => cases h
      simp only [Option.map_eq_some_iff, Prod.mk.injEq] at h
      obtain ⟨⟨zs, H3⟩, hz, rfl, _⟩ := h
      exact L_one
    · simp only [Option.map_eq_some_iff, Prod.mk.injEq] at h
      obtain ⟨z, hz, rfl, _⟩ := h
      exact key hz
theorem shutA_eq {x : AV} {H : Heap} (hx : x.one = true) : shutA x H = shutC 2048 x H := by
  cases x <;> first | rfl | (simp [AV.one] at hx)
theorem shutV_eq {x : AV} {H : Heap} (hx : x.one = true) : shutV x H = shutC 2048 x H := by
  cases x <;> first | rfl | (simp [AV.one] at hx)
theorem shutA_told : Told Lite.shutA := fun x H y H' h H2 => by
  by_cases hx : x.one = true
  · rw [shutA_eq hx] at h
    rw [shutA_eq (shutC_one h hx)]
    exact shutC4_told x H y H' h H2
  · cases x <;> first | (exact absurd rfl hx) | skip
    case agg cs =>
      simp only [Lite.shutA, Option.map_eq_some_iff, Prod.mk.injEq] at h
      obtain ⟨⟨zs, H3⟩, hz, rfl, _⟩ := h
      simp only [Lite.shutA, mapHM_told shutC4_told _ _ _ _ hz H2, Option.map_some]
    case func f cs =>
      simp only [Lite.shutA, Option.map_eq_some_iff, Prod.mk.injEq] at h
      obtain ⟨⟨zs, H3⟩, hz, rfl, _⟩ := h
      simp only [Lite.shutA, mapHM_told shutC4_told _ _ _ _ hz H2, Option.map_some]
    case iface t v =>
      have h' : (canon (.iface t v)).map (fun z => (z, H)) = some (y, H') := h
      simp only [Option.map_eq_some_iff, Prod.mk.injEq] at h'
      obtain ⟨z, hz, rfl, _⟩ := h'
      have hc : ∀ H, shutC 2048 z H = some (z, H) := canon_told hz 2048
      have : z = .iface t v := by
        unfold canon at hz
        split at hz <;> simp_all
      subst this
      exact hc H2
    case tuple vs =>
      have h' : (canon (.tuple vs)).map (fun z => (z, H)) = some (y, H') := h
      simp only [Option.map_eq_some_iff, Prod.mk.injEq] at h'
      obtain ⟨z, hz, rfl, _⟩ := h'
      have hc : ∀ H, shutC 2048 z H = some (z, H) := canon_told hz 2048
      have : z = .tuple vs := by
        unfold canon at hz
        split at hz <;> simp_all
      subst this
      exact hc H2
theorem shutV_told : Told shutV := fun x H y H' h H2 => by
  by_cases hx : x.one = true
  · rw [shutV_eq hx] at h
    rw [shutV_eq (shutC_one h hx)]
    exact shutC4_told x H y H' h H2
  · cases x <;> first | (exact absurd rfl hx) | skip
    case agg cs =>
      have h' : Lite.shutA (.agg cs) H = some (y, H') := h
      have h3 := shutA_told _ _ _ _ h' H2
      simp only [Lite.shutA, Option.map_eq_some_iff, Prod.mk.injEq] at h'
      obtain ⟨⟨zs, H3⟩, hz, rfl, _⟩ := h'
      exact h3
    case func f cs =>
      have h' : Lite.shutA (.func f cs) H = some (y, H') := h
      have h3 := shutA_told _ _ _ _ h' H2
      simp only [Lite.shutA, Option.map_eq_some_iff, Prod.mk.injEq] at h'
      obtain ⟨⟨zs, H3⟩, hz, rfl, _⟩ := h'
      exact h3
    case iface t v =>
      simp only [shutV, Option.map_eq_some_iff, Prod.mk.injEq] at h
      obtain ⟨⟨z, H3⟩, hz, rfl, _⟩ := h
      simp only [shutV, shutA_told _ _ _ _ hz H2, Option.map_some]
    case tuple vs =>
      simp only [shutV, Option.map_eq_some_iff, Prod.mk.injEq] at h
      obtain ⟨⟨zs, H3⟩, hz, rfl, _⟩ := h
      simp only [shutV, mapHM_told shutA_told _ _ _ _ hz H2, Option.map_some]
theorem mapHM_len {f : AV → Heap → Option (AV × Heap)} : ∀ (xs : List AV) (H : Heap) (ys : List AV) (H' : Heap), mapHM f xs H = some (ys, H') → ys.length = xs.length
  | [], H, ys, H', h => by
    simp only [mapHM, Option.some.injEq, Prod.mk.injEq] at h
    obtain ⟨rfl, rfl⟩ := h
    rfl
  | x :: xs, H, ys, H', h => by
    simp only [mapHM, Option.bind_eq_some_iff, Option.map_eq_some_iff, Prod.mk.injEq] at h
    obtain ⟨⟨y, H1⟩, h1, ⟨zs, H3⟩, h2, rfl, rfl⟩ := h
    simp [mapHM_len xs H1 zs H3 h2]
theorem callV_s {P : Prg} {n : Nat} {f : FuncId} {caps xs : List AV} {H : Heap} (ho : P.own f = none) (hs : P.mode f = 2) : callV (callN P n) (.func f caps) xs H = callS P n f (mapHM shutV (xs ++ caps) H) := by
  show callN P n f (xs ++ caps) H = _
  generalize xs ++ caps = zs
  cases n with
  | zero =>
    cases mapHM shutV zs H with
    | none => rfl
    | some q => rfl
  | succ n =>
    cases hm : mapHM shutV zs H with
    | none =>
      simp only [callS, callN, ho]
      cases P.code f with
      | none => rfl
      | some sf =>
        simp only []
        cases Nat.ble zs.length sf.nt with
        | false => rfl
        | true =>
          simp only [cond_true]
          rw [hs, hm]; rfl
    | some q =>
      obtain ⟨ys, H1⟩ := q
      have ht := mapHM_told shutV_told _ _ _ _ hm H1
      have hl := mapHM_len _ _ _ _ hm
      simp only [callS, callN, ho, hl]
      cases P.code f with
      | none => rfl
      | some sf =>
        simp only []
        cases Nat.ble zs.length sf.nt with
        | false => rfl
        | true =>
          simp only [cond_true]
          rw [hs]
          show (mapHM shutV zs H).bind _ = (mapHM shutV ys H1).bind _
          rw [hm, ht]
def call1 (P : Prg) (n : Nat) (f : FuncId) (ys : List AV) (H : Heap) : R :=
  match n, P.code f with
  | m + 1, some sf => bif Nat.ble ys.length sf.nt then settled (sf.body.run (callN P m) m (initFr ys) H (finish sf.res)) else none
  | _, _ => none
def call1S (P : Prg) (n : Nat) (f : FuncId) : Option (List AV × Heap) → R
  | some (ys, H) => call1 P n f ys H
  | none => none
theorem k_call1S {P : Prg} {n : Nat} {f : FuncId} {ys : List AV} {H : Heap} : call1S P n f (some (ys, H)) = call1 P n f ys H := rfl
theorem callV_1 {P : Prg} {n : Nat} {f : FuncId} {caps xs : List AV} {H : Heap} (ho : P.own f = none) (hs : P.mode f = 1) : callV (callN P n) (.func f caps) xs H = call1S P n f (mapHM softV (xs ++ caps) H) := by
  show callN P n f (xs ++ caps) H = _
  generalize xs ++ caps = zs
  cases n with
  | zero =>
    cases mapHM softV zs H with
    | none => rfl
    | some q => rfl
  | succ n =>
    simp only [callN, ho, hs]
    cases hm : mapHM softV zs H with
    | none =>
      cases P.code f with
      | none => rfl
      | some sf =>
        simp only []
        cases Nat.ble zs.length sf.nt <;> rfl
    | some q =>
      obtain ⟨ys, H1⟩ := q
      have hl := mapHM_len _ _ _ _ hm
      simp only [call1S, call1]
      cases P.code f with
      | none => rfl
      | some sf => simp only [hl, Option.bind_some]
/-! ### Lists of content -/
def vList {α : Type} (f : Bool) (es : Nat) (g : α → List AV) (l : List α) : AV := .L f es (l.flatMap g) l.length
theorem vList_cons {α : Type} {f : Bool} {es : Nat} {g : α → List AV} {x : α} {l : List α} : vList f es g (x :: l) = .lst es (l.length + 1) false (g x ++ l.flatMap g) := rfl
theorem len_vList {α : Type} {f : Bool} {es : Nat} {g : α → List AV} {l : List α} : lenM (vList f es g l) = some (.int .i64 l.length) := by
  cases l <;> rfl
theorem flat_len {α : Type} {es : Nat} {g : α → List AV} (hg : ∀ x, (g x).length = es) : ∀ l : List α, (l.flatMap g).length = l.length * es
  | [] => by simp
  | x :: l => by simp [flat_len hg l, hg, Nat.add_mul]; omega
theorem flat_at {α : Type} {es : Nat} {g : α → List AV} (hg : ∀ x, (g x).length = es) : ∀ (l : List α) (j : Nat), ((l.flatMap g).drop (j * es)).take es = match l[j]? with | some x => g x | none => []
  | [], j => by simp
  | x :: l, 0 => by
    simp only [List.flatMap_cons, Nat.zero_mul, List.drop_zero, List.getElem?_cons_zero]
    rw [List.take_append_of_le_length (by rw [hg]; exact Nat.le_refl _), ← hg x, List.take_length]
  | x :: l, j + 1 => by
    simp only [List.flatMap_cons, List.getElem?_cons_succ]
    rw [List.drop_append, List.drop_eq_nil_of_le (by rw [hg, Nat.add_mul]; omega), hg, Nat.add_mul]
    have := flat_at hg l j
    simpa [Nat.add_sub_cancel] using this
theorem flat_drop {α : Type} {es : Nat} {g : α → List AV} (hg : ∀ x, (g x).length = es) (l : List α) (j : Nat) : (l.flatMap g).drop (j * es) = (l.drop j).flatMap g := by
  induction j generalizing l with
  | zero => simp
  | succ j ih =>
    cases l with
    | nil => simp
    | cons x l =>
      simp only [List.flatMap_cons, List.drop_succ_cons]
      rw [List.drop_append, List.drop_eq_nil_of_le (by rw [hg, Nat.add_mul]; omega), hg, Nat.add_mul]
      simpa [Nat.add_sub_cancel] using ih l
theorem flat_take {α : Type} {es : Nat} {g : α → List AV} (hg : ∀ x, (g x).length = es) (l : List α) (j : Nat) : (l.flatMap g).take (j * es) = (l.take j).flatMap g := by
  induction j generalizing l with
  | zero => simp
  | succ j ih =>
    cases l with
    | nil => simp
    | cons x l =>
      simp only [List.flatMap_cons, List.take_succ_cons]
      rw [List.take_append, List.take_of_length_le (by rw [hg, Nat.add_mul]; omega), hg, Nat.add_mul]
      simpa [Nat.add_sub_cancel] using ih l
theorem iaddr_vList {α : Type} {f : Bool} {es : Nat} {g : α → List AV} (hg : ∀ x, (g x).length = es) {l : List α} {j : Nat} : iaddrV es (vList f es g l) j = (l[j]?).map fun x => .ptr (.val (g x)) 0 := by
  cases l with
  | nil => simp [vList, AV.L, iaddrV]
  | cons x l =>
    simp only [vList_cons, iaddrV]
    by_cases hj : j < l.length + 1
    · rw [if_pos ⟨hj, trivial⟩]
      have := flat_at hg (x :: l) j
      rw [List.flatMap_cons] at this
      rw [this]
      have hx : (x :: l)[j]? = some ((x :: l)[j]'(by simpa using hj)) := List.getElem?_eq_getElem _
      rw [hx]
      rfl
    · rw [if_neg (fun h => hj h.1)]
      have : (x :: l)[j]? = none := List.getElem?_eq_none (by simp; omega)
      rw [this]; rfl
theorem iaddr_at {α : Type} {f : Bool} {es : Nat} {g : α → List AV} (hg : ∀ x, (g x).length = es) {l : List α} {j : Nat} {x : α} (h : l[j]? = some x) : iaddrV es (vList f es g l) j = some (.ptr (.val (g x)) 0) := by
  rw [iaddr_vList hg, h]; rfl
theorem taken_vList {α : Type} {f : Bool} {es : Nat} {g : α → List AV} {l : List α} {H : Heap} : taken es H (vList f es g l) = some (l.length, l.flatMap g) := by
  cases l with
  | nil => simp [vList, AV.L, taken]
  | cons x l => simp [vList_cons, taken]
theorem shutC_vList {α : Type} {f : Bool} {es d : Nat} {g : α → List AV} {l : List α} {H : Heap} : shutC d (vList f es g l) H = some (vList f es g l, H) := shutC_L
theorem shutC_int {d : Nat} {k : IntKind} {n : Int} {H : Heap} : shutC d (.int k n) H = some (.int k n, H) := by cases d <;> rfl
theorem shutC_str {d : Nat} {s : List Nat} {H : Heap} : shutC d (.str s) H = some (.str s, H) := by cases d <;> rfl
theorem shutC_bool {d : Nat} {b : Bool} {H : Heap} : shutC d (.bool b) H = some (.bool b, H) := by cases d <;> rfl
theorem shutC_nils {d : Nat} {H : Heap} : shutC d .nils H = some (.lst 0 0 true [], H) := by cases d <;> rfl
theorem shutC_lst {d es n : Nat} {cs : List AV} {H : Heap} : shutC d (.lst es (n + 1) false cs) H = some (.lst es (n + 1) false cs, H) := by cases d <;> rfl
theorem shutC_lst0 {d : Nat} {f : Bool} {H : Heap} : shutC d (.lst 0 0 f []) H = some (.lst 0 0 f [], H) := by cases d <;> rfl
theorem shutC_func {d : Nat} {f : FuncId} {H : Heap} : shutC d (.func f []) H = some (.func f [], H) := by cases d <;> rfl
theorem shutV_agg {cs : List AV} {H : Heap} : shutV (.agg cs) H = (mapHM (shutC 2048) cs H).map fun q => (.agg q.1, q.2) := rfl
theorem shutV_tuple {cs : List AV} {H : Heap} : shutV (.tuple cs) H = (mapHM shutA cs H).map fun q => (.tuple q.1, q.2) := rfl
theorem shutA_agg {cs : List AV} {H : Heap} : shutA (.agg cs) H = (mapHM (shutC 2048) cs H).map fun q => (.agg q.1, q.2) := rfl
theorem shutV_int {k : IntKind} {n : Int} {H : Heap} : shutV (.int k n) H = some (.int k n, H) := rfl
theorem shutV_str {s : List Nat} {H : Heap} : shutV (.str s) H = some (.str s, H) := rfl
theorem shutV_bool {b : Bool} {H : Heap} : shutV (.bool b) H = some (.bool b, H) := rfl
theorem shutV_L {f : Bool} {es n : Nat} {cs : List AV} {H : Heap} : shutV (.L f es cs n) H = some (.L f es cs n, H) := by cases n <;> rfl
theorem shutV_vList {α : Type} {f : Bool} {es : Nat} {g : α → List AV} {l : List α} {H : Heap} : shutV (vList f es g l) H = some (vList f es g l, H) := shutV_L
theorem shutV_nils {H : Heap} : shutV .nils H = some (.lst 0 0 true [], H) := rfl
theorem shutV_func {f : FuncId} {H : Heap} : shutV (.func f []) H = some (.func f [], H) := rfl
theorem softV_some {v : AV} {H : Heap} {q : AV × Heap} (h : shutV v H = some q) : softV v H = some q := by simp only [softV, h]
theorem softV_int {k : IntKind} {n : Int} {H : Heap} : softV (.int k n) H = some (.int k n, H) := rfl
theorem softV_str {s : List Nat} {H : Heap} : softV (.str s) H = some (.str s, H) := rfl
theorem softV_bool {b : Bool} {H : Heap} : softV (.bool b) H = some (.bool b, H) := rfl
theorem softV_ptr {k o : Nat} {H : Heap} : softV (.ptr (.new k) o) H = some (.ptr (.new k) o, H) := rfl
theorem softV_nilp {H : Heap} : softV .nilp H = some (.nilp, H) := rfl
theorem softV_nils {H : Heap} : softV .nils H = some (.lst 0 0 true [], H) := rfl
theorem softV_vList {α : Type} {f : Bool} {es : Nat} {g : α → List AV} {l : List α} {H : Heap} : softV (vList f es g l) H = some (vList f es g l, H) := softV_some shutV_L
def softM (v : AV) (H : Heap) : Option (AV × Heap) → Option (AV × Heap)
  | some q => some q
  | none => some (v, H)
theorem softV_agg {cs : List AV} {H : Heap} : softV (.agg cs) H = softM (.agg cs) H (shutV (.agg cs) H) := rfl
theorem k_softM {v : AV} {H : Heap} {q : AV × Heap} : softM v H (some q) = some q := rfl
theorem k_softM0 {v : AV} {H : Heap} : softM v H none = some (v, H) := rfl
theorem shutV_slice {k o n : Nat} {c : Cap} {H : Heap} : shutV (.slice (.new k) o n c) H = shutC 2048 (.slice (.new k) o n c) H := rfl
theorem shutA_int {k : IntKind} {n : Int} {H : Heap} : shutA (.int k n) H = some (.int k n, H) := rfl
theorem shutA_str {s : List Nat} {H : Heap} : shutA (.str s) H = some (.str s, H) := rfl
theorem shutA_bool {b : Bool} {H : Heap} : shutA (.bool b) H = some (.bool b, H) := rfl
theorem shutA_vList {α : Type} {f : Bool} {es : Nat} {g : α → List AV} {l : List α} {H : Heap} : shutA (vList f es g l) H = some (vList f es g l, H) := by cases l <;> rfl
theorem shutA_slice {k o n : Nat} {c : Cap} {H : Heap} : shutA (.slice (.new k) o n c) H = shutC 2048 (.slice (.new k) o n c) H := rfl
theorem shutA_nils {H : Heap} : shutA .nils H = some (.lst 0 0 true [], H) := rfl
theorem mapHM_nil {f : AV → Heap → Option (AV × Heap)} {H : Heap} : mapHM f [] H = some ([], H) := rfl
theorem mapHM_cons {f : AV → Heap → Option (AV × Heap)} {v : AV} {vs : List AV} {H : Heap} : mapHM f (v :: vs) H = (f v H).bind fun q => (mapHM f vs q.2).map fun r => (q.1 :: r.1, r.2) := rfl
theorem lay_nil : layOf [] = some [] := rfl
theorem lay_cons {c : AV} {cs : List AV} : layOf (c :: cs) = (keepK c).bind fun y => (layOf cs).map (y :: ·) := rfl
theorem keep_int {k : IntKind} {n : Int} : keepK (.int k n) = some (.int k n) := rfl
theorem keep_str {s : List Nat} : keepK (.str s) = some (.str s) := rfl
theorem keep_bool {b : Bool} : keepK (.bool b) = some (.bool b) := rfl
theorem keep_nils : keepK .nils = some (.lst 0 0 true []) := rfl
theorem keep_nilp : keepK .nilp = some .nilp := rfl
theorem keep_lst0 {es : Nat} {f : Bool} {cs : List AV} : keepK (.lst es 0 f cs) = some (.L f es cs 0) := by cases f <;> rfl
theorem keep_lst1 {es n : Nat} {cs : List AV} : keepK (.lst es (n + 1) false cs) = some (.L false es cs (n + 1)) := rfl
theorem keep_lst2 {es n : Nat} {cs : List AV} : keepK (.lst es (n + 1) true cs) = none := rfl
theorem keep_vList {α : Type} {f : Bool} {es : Nat} {g : α → List AV} {l : List α} : keepK (vList f es g l) = some (vList f es g l) := by
  cases l with
  | nil => cases f <;> rfl
  | cons x l => rfl
theorem keep_row {k o n : Nat} {c : Cap} : keepK (.slice (.new k) o n c) = none := rfl
theorem keep_ptr {k o : Nat} : keepK (.ptr (.new k) o) = none := rfl
theorem keep_ptrV {cs : List AV} {o : Nat} : keepK (.ptr (.val cs) o) = some (.ptr (.val cs) o) := rfl
theorem L_zero {f : Bool} {es : Nat} {cs : List AV} : AV.L f es cs 0 = .lst 0 0 f [] := rfl
theorem L_succ {f : Bool} {es n : Nat} {cs : List AV} : AV.L f es cs (n + 1) = .lst es (n + 1) false cs := rfl
theorem k_lay {k es n : Nat} {cs ds : List AV} : lay k es n cs (some ds) = (.row ds 0 true none, bif n == 0 then .lst 0 0 true [] else .lst es n true ds) := by
  simp only [lay, beq_lit]
theorem k_lay0 {k es n : Nat} {cs : List AV} : lay k es n cs none = (.row cs 0 false none, .slice (.new k) 0 n (.fix n es)) := rfl
theorem k_takenL {size es n : Nat} {f : Bool} {cs : List AV} {H : Heap} : taken size H (.lst es n f cs) = if es = size ∨ n = 0 then some (n, cs) else none := rfl
theorem iaddr_lst {size es n j : Nat} {f : Bool} {cs : List AV} : iaddrV size (.lst es n f cs) j = if j < n ∧ es = size then some (.ptr (.val ((cs.drop (j * es)).take es)) 0) else none := rfl
theorem iaddr_slice {size j n o : Nat} {p : Blk} {c : Cap} : iaddrV size (.slice p o n c) j = if j < n then some (.ptr p (o + j * size)) else none := rfl
theorem drop_take1 {cs : List AV} {j : Nat} : ((cs.drop (j * 1)).take 1)[0]? = cs[j]? := by
  rw [Nat.mul_one, List.getElem?_take_of_lt (by omega), List.getElem?_drop, Nat.add_zero]
theorem drop_take0 {cs : List AV} {j : Nat} : ((cs.drop j).take 1)[0]? = cs[j]? := by
  rw [List.getElem?_take_of_lt (by omega), List.getElem?_drop, Nat.add_zero]
theorem shutC_lstF {d es n : Nat} {f : Bool} {cs : List AV} {H : Heap} : shutC d (.lst es n f cs) H = some (.L f es cs n, H) := by cases d <;> rfl
theorem shutV_lstF {es n : Nat} {f : Bool} {cs : List AV} {H : Heap} : shutV (.lst es n f cs) H = some (.L f es cs n, H) := rfl
theorem shutA_lstF {es n : Nat} {f : Bool} {cs : List AV} {H : Heap} : shutA (.lst es n f cs) H = some (.L f es cs n, H) := rfl
theorem fl_lst {es n : Nat} {f : Bool} {cs : List AV} : (AV.lst es n f cs).flat = true := rfl
def Still (cs : List AV) : Prop := ∀ c ∈ cs, ∀ d H, shutC d c H = some (c, H)
theorem Still.nil : Still [] := fun c h => by cases h
theorem Still.cons {c : AV} {cs : List AV} (h : ∀ d H, shutC d c H = some (c, H)) (k : Still cs) : Still (c :: cs) := fun x hx => by
  rcases List.mem_cons.1 hx with e | e
  · rw [e]; exact h
  · exact k x e
theorem Still.append {xs ys : List AV} (h : Still xs) (k : Still ys) : Still (xs ++ ys) := fun c hc => (List.mem_append.1 hc).elim (h c) (k c)
theorem Still.map {cs : List AV} (h : Still cs) (d : Nat) (H : Heap) : mapHM (shutC d) cs H = some (cs, H) := by
  induction cs with
  | nil => rfl
  | cons c cs ih =>
    rw [mapHM_cons, h c (by simp) d H]
    simp only [Option.bind_some]
    rw [ih (fun x hx => h x (by simp [hx]))]
    rfl
theorem Still.flat {α : Type} {g : α → List AV} (hg : ∀ x, Still (g x)) (l : List α) : Still (l.flatMap g) := fun c hc => by
  obtain ⟨x, _, hx⟩ := List.mem_flatMap.1 hc
  exact hg x c hx
theorem Still.int (k : IntKind) (n : Int) : Still [.int k n] := .cons (fun _ _ => shutC_int) .nil
theorem Still.str (s : List Nat) : Still [.str s] := .cons (fun _ _ => shutC_str) .nil
/-! ### Lists that grow -/
def Acc (N : Nat) (H : Heap) (e es n : Nat) (cells : List AV) (v : AV) : Prop :=
  (n = 0 ∧ cells = [] ∧ v = .nils) ∨ (n ≠ 0 ∧ cells.length = n * es ∧ ∃ k, v = .slice (.new k) 0 n (.gro es) ∧ N ≤ k ∧ H.t.get k = some (.row cells es false (some e)))
theorem Acc.nil {N : Nat} {H : Heap} {e es : Nat} : Acc N H e es 0 [] .nils := .inl ⟨rfl, rfl, rfl⟩
def Firm (o : Obj) : Prop := ∀ cs es fz ty, o = .row cs es fz ty → es = 0
theorem firm_row {cs : List AV} {fz : Bool} {ty : Option Nat} : Firm (.row cs 0 fz ty) := fun _ _ _ _ e => by simp only [Obj.row.injEq] at e; exact e.2.1.symm
def HLow (H : Heap) : Prop := ∀ k o, H.t.get k = some o → k < H.n
structure HKeep (X : Nat → Obj → Prop) (H H' : Heap) : Prop where
  n : H.n ≤ H'.n
  get : ∀ j o, H.t.get j = some o → ¬ X j o → H'.t.get j = some o
  low : HLow H → HLow H'
def only (k : Nat) : Nat → Obj → Prop := fun j _ => j = k
def firmBut (k : Nat) : Nat → Obj → Prop := fun j o => j = k ∨ ¬ Firm o
def loose : Nat → Obj → Prop := fun _ o => ¬ Firm o
def blk (v : AV) : Nat → Obj → Prop := fun j _ => ∃ o n c, v = .slice (.new j) o n c
theorem HKeep.refl {X : Nat → Obj → Prop} {H : Heap} : HKeep X H H := ⟨Nat.le_refl _, fun _ _ h _ => h, fun h => h⟩
theorem HKeep.trans {X : Nat → Obj → Prop} {A B C : Heap} (h : HKeep X A B) (k : HKeep X B C) : HKeep X A C := ⟨Nat.le_trans h.n k.n, fun j o hj hx => k.get j o (h.get j o hj hx) hx, fun l => k.low (h.low l)⟩
theorem HKeep.mono {X Y : Nat → Obj → Prop} {A B : Heap} (h : HKeep X A B) (k : ∀ j o, A.t.get j = some o → X j o → Y j o) : HKeep Y A B := ⟨h.n, fun j o hj hy => h.get j o hj fun hx => hy (k j o hj hx), h.low⟩
theorem firmBut_row {k j : Nat} {cs : List AV} {fz : Bool} {ty : Option Nat} (h : j ≠ k) : ¬ firmBut k j (.row cs 0 fz ty) := fun e => e.elim h fun e => e firm_row
theorem HLow.bare {H : Heap} : HLow H.bare := fun k o h => by cases h
theorem HLow.push {H : Heap} (h : HLow H) {ob : Obj} : HLow (H.push ob) := fun k o hk => by
  rw [h_get] at hk
  rw [h_n]
  split at hk
  · omega
  · have := h k o hk; omega
theorem HLow.put {H : Heap} (h : HLow H) {j : Nat} (hj : j < H.n) {ob : Obj} : HLow (H.put j ob) := fun k o hk => by
  rw [h_gput] at hk
  rw [h_nput]
  split at hk
  · omega
  · exact h k o hk
theorem HLow.del {H : Heap} (h : HLow H) {j : Nat} : HLow (H.del j) := fun k o hk => by
  rw [h_gdel] at hk
  rw [h_ndel]
  split at hk
  · cases hk
  · exact h k o hk
theorem HLow.lt {H : Heap} (h : HLow H) {k : Nat} {o : Obj} (hk : H.t.get k = some o) : k < H.n := h k o hk
theorem HKeep.push {X : Nat → Obj → Prop} {H : Heap} (l : HLow H) {ob : Obj} : HKeep X H (H.push ob) := ⟨by simp [h_n], fun j o hj _ => by rw [h_get, if_neg (by have := l j o hj; omega)]; exact hj, fun h => h.push⟩
theorem HKeep.put {X : Nat → Obj → Prop} {H : Heap} {j : Nat} (hj : ∀ o, X j o) (hn : j < H.n) {ob : Obj} : HKeep X H (H.put j ob) := ⟨Nat.le_refl _, fun k o hk hx => by rw [h_gput, if_neg (fun e => hx (by rw [e]; exact hj o))]; exact hk, fun h => h.put hn⟩
theorem HKeep.own {X : Nat → Obj → Prop} {H H2 : Heap} (h : HKeep X H H2) (l : HLow H) {j : Nat} (hj : H.n ≤ j) (hn : j < H2.n) {ob : Obj} : HKeep X H (H2.put j ob) :=
  ⟨h.n, fun k o hk hx => by rw [h_gput, if_neg (by have := l k o hk; omega)]; exact h.get k o hk hx, fun l => (h.low l).put hn⟩
theorem HKeep.pushed {X : Nat → Obj → Prop} {H H2 : Heap} (h : HKeep X H H2) (l : HLow H) {ob : Obj} : HKeep X H (H2.push ob) := h.trans (HKeep.push (h.low l))
theorem Acc.flat {N : Nat} {H : Heap} {e es n : Nat} {cells : List AV} {v : AV} (h : Acc N H e es n cells v) : v.flat = true := by
  rcases h with ⟨_, _, rfl⟩ | ⟨_, _, k, rfl, _⟩ <;> rfl
theorem Acc.len {N : Nat} {H : Heap} {e es n : Nat} {cells : List AV} {v : AV} (h : Acc N H e es n cells v) : lenM v = some (.int .i64 n) := by
  rcases h with ⟨rfl, _, rfl⟩ | ⟨_, _, k, rfl, _⟩ <;> rfl
theorem Acc.keep {N : Nat} {H H' : Heap} {e es n : Nat} {cells : List AV} {v : AV} (h : Acc N H e es n cells v) (k : ∀ j o, blk v j o → H.t.get j = some (.row cells es false (some e)) → H'.t.get j = H.t.get j) : Acc N H' e es n cells v := by
  rcases h with h | ⟨h1, h2, j, rfl, h3, h4⟩
  · exact .inl h
  · exact .inr ⟨h1, h2, j, rfl, h3, (k j (.iter [] 0) ⟨_, _, _, rfl⟩ h4).trans h4⟩
theorem Acc.kept {X : Nat → Obj → Prop} {N : Nat} {H H' : Heap} {e es n : Nat} {cells : List AV} {v : AV} (h : Acc N H e es n cells v) (k : HKeep X H H') (hx : ∀ j, N ≤ j → H.t.get j = some (.row cells es false (some e)) → ¬ X j (.row cells es false (some e))) : Acc N H' e es n cells v := by
  rcases h with h | ⟨h1, h2, j, rfl, h3, h4⟩
  · exact .inl h
  · exact .inr ⟨h1, h2, j, rfl, h3, k.get j _ h4 (hx j h3 h4)⟩
theorem Acc.push {N : Nat} {H : Heap} {e es n : Nat} {cells : List AV} {v : AV} {ob : Obj} (h : Acc N H e es n cells v) (l : HLow H) : Acc N (H.push ob) e es n cells v :=
  h.keep fun j _ _ hj => by rw [h_get, if_neg (by have := l j _ hj; omega)]
theorem Acc.put {N : Nat} {H : Heap} {e es n : Nat} {cells : List AV} {v : AV} {ob : Obj} {k : Nat} (h : Acc N H e es n cells v) (hes : es ≠ 0) {cs : List AV} {fz : Bool} {ty : Option Nat} (hk : H.t.get k = some (.row cs 0 fz ty)) : Acc N (H.put k ob) e es n cells v :=
  h.keep fun j _ _ hj => by
    rw [h_gput, if_neg]
    rintro rfl
    rw [hk] at hj
    simp only [Option.some.injEq, Obj.row.injEq] at hj
    exact hes hj.2.1.symm
theorem Acc.row {N : Nat} {H H' : Heap} {e es n : Nat} {cells : List AV} {v : AV} (h : Acc N H e es n cells v) (hes : es ≠ 0) (kp : HKeep (blk v) H H') {j : Nat} {cs : List AV} {fz : Bool} {ty : Option Nat} (hj : H.t.get j = some (.row cs 0 fz ty)) : H'.t.get j = some (.row cs 0 fz ty) := by
  refine kp.get j _ hj ?_
  rintro ⟨o, m, c, rfl⟩
  rcases h with ⟨_, _, h⟩ | ⟨_, _, k, h, _, h4⟩
  · cases h
  · simp only [AV.slice.injEq, Blk.new.injEq] at h
    rw [h.1] at hj
    rw [h4] at hj
    simp only [Option.some.injEq, Obj.row.injEq] at hj
    exact hes hj.2.1
theorem Acc.other {N N' : Nat} {H H' : Heap} {e es n e' es' n' : Nat} {cells cells' : List AV} {v u : AV} (h : Acc N H e es n cells v) (k : Acc N' H e' es' n' cells' u) (he : e ≠ e') (kp : HKeep (blk v) H H') : Acc N' H' e' es' n' cells' u := by
  refine k.kept kp fun j _ hj => ?_
  rintro ⟨o, m, c, rfl⟩
  rcases h with ⟨_, _, h⟩ | ⟨_, _, k, h, _, h4⟩
  · cases h
  · simp only [AV.slice.injEq, Blk.new.injEq] at h
    rw [h.1] at hj
    rw [h4] at hj
    simp only [Option.some.injEq, Obj.row.injEq] at hj
    exact he hj.2.2.2
theorem Acc.keeps {X : Nat → Obj → Prop} {H H2 H' : Heap} {e es n : Nat} {cells : List AV} {v : AV} (h : Acc H.n H2 e es n cells v) (kp : HKeep X H H2) (l : HLow H) (kp' : HKeep (blk v) H2 H') : HKeep X H H' :=
  ⟨Nat.le_trans kp.n kp'.n, fun j o hj hx => kp'.get j o (kp.get j o hj hx) fun ⟨q, m, c, e⟩ => by
    subst e
    have := l j o hj
    rcases h with ⟨_, _, h⟩ | ⟨_, _, k, h, h3, _⟩
    · cases h
    · simp only [AV.slice.injEq, Blk.new.injEq] at h
      omega, fun l => kp'.low (kp.low l)⟩
theorem Acc.firm {N : Nat} {H H' : Heap} {e es n : Nat} {cells : List AV} {v : AV} (h : Acc N H e es n cells v) (hes : es ≠ 0) (kp : HKeep (blk v) H H') : HKeep loose H H' :=
  kp.mono fun j o hj ⟨q, m, c, ev⟩ => by
    subst ev
    rcases h with ⟨_, _, h⟩ | ⟨_, _, k, h, _, h4⟩
    · cases h
    · simp only [AV.slice.injEq, Blk.new.injEq] at h
      rw [h.1] at hj
      rw [h4] at hj
      simp only [Option.some.injEq] at hj
      subst hj
      exact fun f => hes (f _ _ _ _ rfl)
theorem Acc.more {N : Nat} {H : Heap} {e es bs n m : Nat} {cells ys : List AV} {v : AV} (h : Acc N H e es n cells v) (hN : N ≤ H.n) (hlow : HLow H) (hes : es ≠ 0) (hys : ys.length = m * es) (hfl : ys.all AV.flat = true) (hb : (n + m) * bs ≤ 1099511627776 ∧ n + m ≤ 1099511627776) :
    ∃ v' H', appendOf e es bs H v (m, ys) = some (v', H') ∧ Acc N H' e es (n + m) (cells ++ ys) v' ∧ HKeep (blk v) H H' ∧ HLow H' := by
  unfold appendOf
  rw [if_neg (by simp [hes, hfl])]
  rcases h with ⟨rfl, rfl, rfl⟩ | ⟨h1, h2, k, rfl, h5, h3⟩
  · simp only []
    by_cases hm : m = 0
    · subst hm
      rw [if_pos rfl]
      have : ys = [] := List.eq_nil_of_length_eq_zero (by simpa using hys)
      subst this
      exact ⟨_, _, rfl, .inl ⟨rfl, rfl, rfl⟩, HKeep.refl, hlow⟩
    · rw [if_neg hm, if_pos (by simpa using hb)]
      exact ⟨_, _, rfl, .inr ⟨by omega, by simpa using hys, H.n, by simp [Heap.fresh], hN, by simp [Heap.fresh, h_get]⟩, HKeep.push hlow, hlow.push⟩
  · simp only []
    by_cases hm : m = 0
    · subst hm
      rw [if_pos rfl]
      have : ys = [] := List.eq_nil_of_length_eq_zero (by simpa using hys)
      subst this
      exact ⟨_, _, rfl, .inr ⟨h1, by simpa using h2, k, rfl, h5, by simpa using h3⟩, HKeep.refl, hlow⟩
    · rw [if_neg hm, if_pos hb]
      simp only [if_true, h3]
      rw [if_pos (by rw [h2]; simp)]
      have hty : tyKeep e 0 (some e) = some e := by simp [tyKeep]
      rw [hty, List.drop_zero, List.take_of_length_le (by omega)]
      refine ⟨_, _, rfl, .inr ⟨by omega, by rw [List.length_append, h2, hys, Nat.add_mul], H.n, by simp [Heap.fresh, h_ndel], hN, by simp [Heap.fresh, h_get, h_ndel]⟩, ⟨by simp only [Heap.fresh, h_n, h_ndel]; omega, fun j o hj ho => ?_, fun _ => (hlow.del).push⟩, (hlow.del).push⟩
      have hne : j ≠ k := fun e => ho ⟨_, _, _, by rw [e]⟩
      show (((H.del k).push _).t.get j) = some o
      rw [h_get, h_ndel, if_neg (by have := hlow j o hj; omega), h_gdel, if_neg hne]
      exact hj
theorem Acc.shut {N : Nat} {H : Heap} {e es n d : Nat} {cells : List AV} {v : AV} (h : Acc N H e es n cells v) (hes : es ≠ 0) (hst : Still cells) : ∃ H', shutC (d + 1) v H = some (.L true es cells n, H') ∧ HKeep (blk v) H H' := by
  rcases h with ⟨rfl, rfl, rfl⟩ | ⟨h1, h2, k, rfl, _, h3⟩
  · exact ⟨H, rfl, HKeep.refl⟩
  · refine ⟨H.put k (.row cells es true (some e)), ?_, ⟨Nat.le_refl _, fun j o hj ho => ?_, fun l => l.put (l k _ h3)⟩⟩
    · simp only [shutC, h3, shutRow, List.drop_zero, Cap.es]
      have ht : cells.take (n * es) = cells := by rw [← h2, List.take_length]
      rw [ht, if_pos ⟨h2, .inr hes⟩, hst.map]
      simp only [Option.map_some]
      cases n with
      | zero => exact absurd rfl h1
      | succ n => rfl
    · rw [h_gput, if_neg]
      · exact hj
      · rintro rfl
        exact ho ⟨_, _, _, rfl⟩
theorem Acc.one {N : Nat} {H : Heap} {e es n : Nat} {cells : List AV} {v : AV} (h : Acc N H e es n cells v) : v.one = true := by
  rcases h with ⟨_, _, rfl⟩ | ⟨_, _, k, rfl, _⟩ <;> rfl
theorem Acc.shutV {N : Nat} {H : Heap} {e es n : Nat} {cells : List AV} {v : AV} (h : Acc N H e es n cells v) (hes : es ≠ 0) (hst : Still cells) : ∃ H', Lite.shutV v H = some (.L true es cells n, H') ∧ HKeep (blk v) H H' := by
  rw [shutV_eq h.one]
  exact h.shut hes hst
/-! ### Loops -/
theorem loop_rounds {call : CallF} {n : Nat} {c : SCode} {KK : Ex → Fr → Heap → R} {Q : AV → Heap → Prop} (N : Nat) (I : Nat → Fr → Heap → Prop)
    (hbody : ∀ i fr H (K' : Ex → Fr → Heap → R), i < N → I i fr H → (∀ t, K' (.exit t) = KK (.exit t)) → K' .ret = KK .ret → (∀ fr' H', I (i + 1) fr' H' → Gives (K' .normal fr' H') Q) → Gives (c.run call n fr H K') Q)
    (hlast : ∀ fr H (K' : Ex → Fr → Heap → R), I N fr H → (∀ t, K' (.exit t) = KK (.exit t)) → K' .ret = KK .ret → Gives (c.run call n fr H K') Q) :
    ∀ (m i : Nat) (fr : Fr) (H : Heap), i ≤ N → N < m + i → I i fr H → Gives (loopR call n c m fr H KK) Q
  | 0, i, fr, H, hi, hm, _ => by omega
  | m + 1, i, fr, H, hi, hm, h => by
    rw [loop_succ]
    by_cases hlt : i < N
    · refine hbody i fr H _ hlt h (fun t => by funext fr H; exact k_loopE) (by funext fr H; exact k_loopR) fun fr' H' h' => ?_
      rw [k_loopN]
      exact loop_rounds N I hbody hlast m (i + 1) fr' H' (by omega) (by omega) h'
    · obtain rfl : i = N := by omega
      exact hlast fr H _ h (fun t => by funext fr H; exact k_loopE) (by funext fr H; exact k_loopR)
theorem wrap64 {x : Int} (h1 : -9223372036854775808 ≤ x) (h2 : x < 9223372036854775808) : IntKind.i64.wrap x = x := by
  have h : IntKind.i64.wrap x = if x % 18446744073709551616 ≥ 9223372036854775808 then x % 18446744073709551616 - 18446744073709551616 else x % 18446744073709551616 := by
    simp [IntKind.wrap, IntKind.bits, IntKind.signed]
  rw [h]
  split <;> omega
theorem wrap_succ {i n : Nat} (h : i < n) (hn : n ≤ 9223372036854775807) : IntKind.i64.wrap ((i : Int) + 1) = ((i + 1 : Nat) : Int) := by
  rw [wrap64 (by omega) (by omega)]; rfl
theorem wrap_nat {i j : Nat} (h : i + j ≤ 4611686018427387904) : IntKind.i64.wrap ((i : Int) + (j : Int)) = ((i + j : Nat) : Int) := by
  rw [wrap64 (by omega) (by omega)]; rfl
end Go.Lite

/-
  What the interpreter's steps are rewritten by, in one bundle.
-/
namespace Go.Lite
open Go
def SB := And.intro @drop_take0 (And.intro (And.intro (And.intro (And.intro (And.intro @lay_nil (And.intro @lay_cons @keep_int)) (And.intro (And.intro @keep_str @keep_bool) (And.intro @keep_nils @keep_nilp))) (And.intro (And.intro (And.intro @keep_lst0 (And.intro @keep_lst1 @keep_lst2)) (And.intro @keep_vList @keep_row)) (And.intro (And.intro @keep_ptr @keep_ptrV) (And.intro @L_zero @L_succ)))) (And.intro (And.intro (And.intro @k_lay (And.intro @k_lay0 @k_takenL)) (And.intro (And.intro @iaddr_lst @iaddr_slice) (And.intro @drop_take1 @shutC_lstF))) (And.intro (And.intro (And.intro @shutV_lstF @shutA_lstF) (And.intro @fl_lst @true_or)) (And.intro (And.intro @or_true @or_false) (And.intro @false_or @k_taken))))) (And.intro (And.intro (And.intro (And.intro (And.intro (And.intro (And.intro @k_len1 (And.intro @k_len2 @k_len3)) (And.intro @s_nil (And.intro @s_p @s_a))) (And.intro (And.intro @s_w (And.intro @s_c @s_pa)) (And.intro @s_g (And.intro @k_p @k_a)))) (And.intro (And.intro (And.intro @k_w (And.intro @k_c @k_cp)) (And.intro @k_gt (And.intro @k_gf @s_skip))) (And.intro (And.intro @s_ops (And.intro @s_draw @s_seq)) (And.intro @s_cond (And.intro @s_block @s_loop))))) (And.intro (And.intro (And.intro (And.intro @s_exit (And.intro @s_ret @k_seqN)) (And.intro @k_seqE (And.intro @k_seqR @k_blockN))) (And.intro (And.intro @k_blockR (And.intro @k_blockE @k_condT)) (And.intro @k_condF (And.intro @k_loopN @k_loopE)))) (And.intro (And.intro (And.intro @k_loopR (And.intro @s_phs @s_phs0)) (And.intro @s_ck (And.intro @k_ck @fr_put))) (And.intro (And.intro @fr_put0 (And.intro @fr_get @ev_tmp)) (And.intro (And.intro @ev_lit @init_get) (And.intro @fin_ret @fin_norm)))))) (And.intro (And.intro (And.intro (And.intro (And.intro @cl_agg (And.intro @cl_flat @cond_true.{1})) (And.intro @cond_false.{1} (And.intro @Option.bind_some.{0, 0} @Option.bind_none.{0, 0}))) (And.intro (And.intro @Option.map_some.{0, 0} (And.intro @Option.map_none.{0, 0} @List.map_cons.{0, 0})) (And.intro @List.map_nil.{0, 0} (And.intro @List.append_nil.{0} @List.nil_append.{0})))) (And.intro (And.intro (And.intro @List.cons_append.{0} (And.intro @List.getElem?_cons_zero.{0} @List.getElem?_cons_succ.{0})) (And.intro @List.getElem?_nil.{0} (And.intro @Option.getD_some.{0} @Option.getD_none.{0}))) (And.intro (And.intro @decide_true (And.intro @decide_false @List.length_cons.{0})) (And.intro (And.intro @List.length_nil.{0} @List.take_succ_cons.{0}) (And.intro @List.take_zero.{0} @List.take_nil.{0}))))) (And.intro (And.intro (And.intro (And.intro @List.drop_succ_cons.{0} (And.intro @List.drop_zero.{0} @List.drop_nil.{0})) (And.intro @h_n (And.intro @h_nput @h_ndel))) (And.intro (And.intro @h_get (And.intro @h_gput @h_gdel)) (And.intro @h_base (And.intro @h_bput @h_bdel)))) (And.intro (And.intro (And.intro @h_cells (And.intro @h_cellsO @h_ld1)) (And.intro @h_ldn (And.intro @k_ldn @h_st))) (And.intro (And.intro @k_st (And.intro @k_cells @List.all_cons.{0})) (And.intro (And.intro @List.all_nil.{0} @fl_bool) (And.intro @fl_int @fl_str))))))) (And.intro (And.intro (And.intro (And.intro (And.intro (And.intro @fl_nilp (And.intro @fl_ptr @fl_nils)) (And.intro @fl_slice (And.intro @fl_emp @fl_func))) (And.intro (And.intro @fl_nilf (And.intro @fl_iface @fl_nili)) (And.intro @Bool.and_true (And.intro @Bool.true_and @Bool.and_false)))) (And.intro (And.intro (And.intro @Bool.false_and (And.intro @and_true @true_and)) (And.intro @and_self (And.intro @Nat.zero_add @Nat.add_zero))) (And.intro (And.intro @Nat.le_refl (And.intro @Nat.add_eq_left @Nat.left_eq_add)) (And.intro @Nat.add_left_cancel_iff (And.intro @List.isEmpty_nil.{0} @b_ft))))) (And.intro (And.intro (And.intro (And.intro @b_tf (And.intro @b_tt @b_ff)) (And.intro @Bool.not_true (And.intro @Bool.not_false @beq_self_eq_true.{0}))) (And.intro (And.intro @BEq.rfl.{0} (And.intro @decide_eq_true_eq @ne_eq.{1})) (And.intro @not_false_eq_true (And.intro @not_true_eq_false @Int.natCast_nonneg)))) (And.intro (And.intro (And.intro @Int.toNat_natCast (And.intro @k_taken @Nat.one_mul)) (And.intro @n_lt0_2 (And.intro @n_gt0_2 @n_lt0_3))) (And.intro (And.intro @n_gt0_3 (And.intro @n_lt0_4 @n_gt0_4)) (And.intro (And.intro @n_lt0_5 @n_gt0_5) (And.intro @n_lt0_6 @n_gt0_6)))))) (And.intro (And.intro (And.intro (And.intro (And.intro @h_cellsV (And.intro @h_nbare @h_gbare)) (And.intro @h_bbare (And.intro @k_len4 @len_vList))) (And.intro (And.intro @taken_vList (And.intro @shutC_vList @shutC_int)) (And.intro @shutC_str (And.intro @shutC_bool @shutC_nils)))) (And.intro (And.intro (And.intro @shutC_lst (And.intro @shutC_lst0 @shutC_func)) (And.intro @shutV_agg (And.intro @shutV_tuple @shutA_agg))) (And.intro (And.intro @shutV_int (And.intro @shutV_str @shutV_bool)) (And.intro (And.intro @shutV_vList @shutV_nils) (And.intro @shutV_func @shutV_slice))))) (And.intro (And.intro (And.intro (And.intro @shutA_int (And.intro @shutA_str @shutA_bool)) (And.intro @shutA_vList (And.intro @shutA_slice @shutA_nils))) (And.intro (And.intro @mapHM_nil (And.intro @mapHM_cons @same_refl)) (And.intro @k_callS (And.intro @Bool.or_false @Bool.false_or)))) (And.intro (And.intro (And.intro @Bool.or_true (And.intro @Bool.true_or @k_call1S)) (And.intro @softV_int (And.intro @softV_str @softV_bool))) (And.intro (And.intro @softV_ptr (And.intro @softV_nilp @softV_nils)) (And.intro (And.intro @softV_vList @softV_agg) (And.intro @k_softM @k_softM0)))))))))
end Go.Lite

/-
  .. and by what the interpreter's functions are, case by case.
-/
namespace Go.Lite
open Go
def ZZ := And.intro SB (And.intro (And.intro (And.intro (And.intro (And.intro (And.intro (And.intro @POp.val.eq_1 @POp.val.eq_2) (And.intro @POp.val.eq_3 @POp.val.eq_4)) (And.intro (And.intro @POp.val.eq_5 @POp.val.eq_6) (And.intro @POp.val.eq_7 (And.intro @POp.val.eq_8 @POp.val.eq_9)))) (And.intro (And.intro (And.intro @POp.val.eq_10 @POp.val.eq_11) (And.intro @POp.val.eq_12 @POp.val.eq_13)) (And.intro (And.intro @POp.val.eq_14 @POp.val.eq_15) (And.intro @POp.val.eq_16 (And.intro @POp.val.eq_17 @POp.val.eq_18))))) (And.intro (And.intro (And.intro (And.intro @POp.val.eq_19 @POp.val.eq_20) (And.intro @POp.val.eq_21 @POp.val.eq_22)) (And.intro (And.intro @POp.val.eq_23 @POp.val.eq_24) (And.intro @POp.val.eq_25 (And.intro @POp.val.eq_26 @POp.val.eq_27)))) (And.intro (And.intro (And.intro @POp.val.eq_28 @POp.val.eq_29) (And.intro @POp.val.eq_30 (And.intro @AOp.val.eq_1 @AOp.val.eq_2))) (And.intro (And.intro @AOp.val.eq_3 @AOp.val.eq_4) (And.intro @AOp.val.eq_5 (And.intro @AOp.val.eq_6 @WOp.val.eq_1)))))) (And.intro (And.intro (And.intro (And.intro (And.intro @WOp.val.eq_2 @WOp.val.eq_3) (And.intro @Lite.bin.eq_1 @Lite.bin.eq_2)) (And.intro (And.intro @Lite.bin.eq_3 @Lite.bin.eq_4) (And.intro @Lite.bin.eq_5 (And.intro @Lite.bin.eq_6 @Lite.bin.eq_7)))) (And.intro (And.intro (And.intro @intBin.eq_1 @intBin.eq_2) (And.intro @intBin.eq_3 (And.intro @intBin.eq_4 @intBin.eq_5))) (And.intro (And.intro @intBin.eq_6 @intBin.eq_7) (And.intro @intBin.eq_8 (And.intro @intBin.eq_9 @intBin.eq_10))))) (And.intro (And.intro (And.intro (And.intro @intBin.eq_11 @intBin.eq_12) (And.intro @strBin.eq_1 @strBin.eq_2)) (And.intro (And.intro @strBin.eq_3 @strBin.eq_4) (And.intro @strBin.eq_5 (And.intro @strBin.eq_6 @strBin.eq_7)))) (And.intro (And.intro (And.intro @strBin.eq_8 @eqv.eq_1) (And.intro @eqv.eq_2 (And.intro @eqv.eq_3 @eqv.eq_4))) (And.intro (And.intro @eqv.eq_5 @eqv.eq_6) (And.intro @eqv.eq_7 (And.intro @eqv.eq_8 @eqv.eq_9))))))) (And.intro (And.intro (And.intro (And.intro (And.intro (And.intro @eqv.eq_10 @eqv.eq_11) (And.intro @eqv.eq_12 @eqv.eq_13)) (And.intro (And.intro @eqv.eq_14 @eqv.eq_15) (And.intro @eqv.eq_16 (And.intro @eqMany.eq_1 @eqMany.eq_2)))) (And.intro (And.intro (And.intro @eq1.eq_1 @eq1.eq_2) (And.intro @eq1.eq_3 (And.intro @eq1.eq_4 @AV.asBool.eq_1))) (And.intro (And.intro @AV.asBool.eq_2 @AV.asInt.eq_1) (And.intro @AV.asInt.eq_2 (And.intro @AV.asNat.eq_1 @AV.asNat.eq_2))))) (And.intro (And.intro (And.intro (And.intro @AV.asPtr.eq_1 @AV.asPtr.eq_2) (And.intro @AV.asStr.eq_1 @AV.asStr.eq_2)) (And.intro (And.intro @resVals.eq_1 @resVals.eq_2) (And.intro @ResV.val.eq_1 (And.intro @ResV.val.eq_2 @ResV.val.eq_3)))) (And.intro (And.intro (And.intro @oneOr.eq_1 @oneOr.eq_2) (And.intro @wants.eq_1 (And.intro @wants.eq_2 @skipped.eq_1))) (And.intro (And.intro @fillAt.eq_1 @fillAt.eq_2) (And.intro @putAt.eq_1 (And.intro @capOf.eq_1 @capOf.eq_2)))))) (And.intro (And.intro (And.intro (And.intro (And.intro @optNat.eq_1 @optNat.eq_2) (And.intro @bnd.eq_1 @bnd.eq_2)) (And.intro (And.intro @SOper.again.eq_1 @same.eq_1) (And.intro @same.eq_2 (And.intro @same.eq_3 @same.eq_4)))) (And.intro (And.intro (And.intro @same.eq_5 @same.eq_6) (And.intro @same.eq_7 (And.intro @same.eq_8 @same.eq_9))) (And.intro (And.intro @same.eq_10 @same.eq_11) (And.intro @same.eq_12 (And.intro @same.eq_13 @same.eq_14))))) (And.intro (And.intro (And.intro (And.intro @same.eq_15 @same.eq_16) (And.intro @same.eq_17 @same.eq_18)) (And.intro (And.intro @same.eq_19 @sameBlk.eq_1) (And.intro @sameBlk.eq_2 (And.intro @sameBlk.eq_3 @sameBlk.eq_4)))) (And.intro (And.intro (And.intro @sameCap.eq_1 @sameCap.eq_2) (And.intro @sameCap.eq_3 (And.intro @asunder.eq_1 @SOper.into.eq_1))) (And.intro (And.intro @s_draw2 @s_pair) (And.intro @k_pair (And.intro @Bool.not_false @Bool.not_true))))))))
end Go.Lite

/-
  slices.Clone, of a list of content: nil or not, it comes to the same content. A Lean function in its place.
-/
namespace Go.Lite
open Go
def cloneCode (e size bytes : Nat) : SFunc := ⟨8, (SCode.seq (SCode.ops [SOper.mk (some 2) none (SOp.p (POp.move (SX.lit AV.nils)))])
  (SCode.seq (SCode.seq (SCode.ops [SOper.mk (some 3) none (SOp.p (POp.move (SX.tmp 0))), SOper.mk (some 4) none (SOp.p (POp.bin BinOp.eql EqT.slc (SX.tmp 3) (SX.lit AV.nils)))])
  (SCode.cond (SX.tmp 4)
  (SCode.seq (SCode.ops [SOper.mk (some 2) none (SOp.p (POp.move (SX.lit AV.nils)))])
  SCode.ret)
  SCode.skip))
  (SCode.seq (SCode.ops [SOper.mk (some 5) none (SOp.a (AOp.buildS [] 0 [])), SOper.mk (some 6) none (SOp.p (POp.move (SX.tmp 0))), SOper.mk (some 7) none (SOp.w (WOp.append e size bytes (SX.tmp 5) (SX.tmp 6))), SOper.mk (some 2) none (SOp.p (POp.move (SX.tmp 7)))])
  SCode.ret))), [ResV.tmp 2]⟩
theorem canon_shut {c y : AV} (h : canon c = some y) (d : Nat) (H : Heap) : shutC d c H = some (y, H) := by
  cases d with
  | zero => simp only [shutC, h, Option.map_some]
  | succ d =>
    unfold shutC
    split
    · simp [canon, AV.pure, Blk.pure] at h
    · simp only [h, Option.map_some]
theorem canonL_shut : ∀ {cs ys : List AV}, canonL cs = some ys → ∀ (d : Nat) (H : Heap), mapHM (shutC d) cs H = some (ys, H)
  | [], ys, h, d, H => by
    simp only [canonL, Option.some.injEq] at h
    subst h; rfl
  | c :: cs, ys, h, d, H => by
    simp only [canonL, Option.bind_eq_some_iff, Option.map_eq_some_iff] at h
    obtain ⟨y, hy, zs, hz, rfl⟩ := h
    simp only [mapHM, canon_shut hy, Option.bind_some, canonL_shut hz, Option.map_some]
theorem Still.canonL {cs : List AV} (h : Still cs) : Lite.canonL cs = some cs := by
  induction cs with
  | nil => rfl
  | cons c cs ih =>
    have h1 : shutC 0 c heap0 = some (c, heap0) := h c (by simp) 0 heap0
    simp only [shutC, Option.map_eq_some_iff, Prod.mk.injEq, and_true] at h1
    obtain ⟨y, hy, rfl⟩ := h1
    simp only [Lite.canonL, hy, Option.bind_some, ih (fun x hx => h x (by simp [hx])), Option.map_some]
def ownClone (es bytes : Nat) (xs : List AV) (H : Heap) : R :=
  (mapHM shutV xs H).bind fun q => match q.1 with
    | [.lst e n f cs] => if (e = es ∨ n = 0) ∧ cs.length = n * e ∧ cs.all AV.flat = true ∧ n * bytes ≤ 1099511627776 ∧ n ≤ 1099511627776 then (canonL cs).map fun r => (.ret (.L true e r n), q.2) else none
    | _ => none
variable {P : Program} {nb : NB}
theorem clone_run {f : FuncId} {e es bytes : Nat} (hes : es ≠ 0) {Q : Prg} (ho : Q.own f = none) (hm : Q.mode f = 0) (hc : Q.code f = some (cloneCode e es bytes)) (H : Heap) :
    callN Q 1 f [.nils] H.bare = some (.ret .nils, H.bare) ∧
    (∃ H', callN Q 1 f [.emp] H.bare = some (.ret (.lst 0 0 true []), H')) ∧
    (∀ n cs r, cs.length = (n + 1) * es → cs.all AV.flat = true → (n + 1) * bytes ≤ 1099511627776 → n + 1 ≤ 1099511627776 → canonL cs = some r →
      ∃ v H', callN Q 1 f [.lst es (n + 1) false cs] H.bare = some (.ret v, H') ∧ ∃ H'', shutV v H' = some (.lst es (n + 1) false r, H'')) := by
  refine ⟨?_, ?_, fun n cs r hl hfl hb hb2 hr => ?_⟩
  · rw [callN_code ho hc hm rfl]
    simp -implicitDefEqProofs only [cloneCode, ↓v_lenS, ZZ, Nat.reduceBEq, reduceIte, Nat.reduceAdd, Nat.reduceLeDiff, Nat.reduceEqDiff, Nat.reduceBneDiff]
  · rw [callN_code ho hc hm rfl]
    have h1 : ∀ G : Heap, appendOf e es bytes G (.lst 0 0 true []) (0, []) = some (.lst 0 0 true [], G) := fun G => by
      simp [appendOf, hes]
    have h2 : ∀ G : Heap, taken es G .emp = some (0, []) := fun G => rfl
    simp -implicitDefEqProofs only [cloneCode, ↓v_lenS, ZZ, Nat.reduceBEq, reduceIte, Nat.reduceAdd, Nat.reduceLeDiff, Nat.reduceEqDiff, Nat.reduceBneDiff, h1, h2]
    exact ⟨_, rfl⟩
  · rw [callN_code ho hc hm rfl]
    have h1 : ∀ G : Heap, appendOf e es bytes G (.lst 0 0 true []) (n + 1, cs) = some (G.fresh es (n + 1) (some e) cs) := fun G => by
      simp [appendOf, hes, hfl, hb, hb2]
    have h2 : ∀ G : Heap, taken es G (.lst es (n + 1) false cs) = some (n + 1, cs) := fun G => by simp [taken]
    simp -implicitDefEqProofs only [cloneCode, ↓v_lenS, ZZ, Nat.reduceBEq, reduceIte, Nat.reduceAdd, Nat.reduceLeDiff, Nat.reduceEqDiff, Nat.reduceBneDiff, h2, h1, Heap.fresh, eqv, rep]
    refine ⟨_, _, rfl, ?_⟩
    have ht : (cs.drop 0).take ((n + 1) * (Cap.gro es).es) = cs := by simp only [Cap.es, List.drop_zero]; rw [← hl, List.take_length]
    have hk : ∀ G : Heap, G.t.get 1 = some (.row cs es false (some e)) → shutC 2048 (.slice (.new 1) 0 (n + 1) (.gro es)) G = some (.lst es (n + 1) false r, G.put 1 (.row cs es true (some e))) := fun G hg => by
      rw [shutC, hg, shutRow, ht, if_pos ⟨hl, .inr hes⟩, canonL_shut hr]
      rfl
    exact ⟨_, hk _ (by simp [h_get, h_n, h_nbare])⟩
theorem ownClone_ok (hgl : P.globals.size ≤ nb) (hm : P.follows .mixedOrders = true) {f : FuncId} {e es bytes : Nat} (hes : es ≠ 0) (hc : ∀ own mode, (slimPrg P own mode).code f = some (cloneCode e es bytes)) : OwnOk P nb f (ownClone es bytes) := by
  intro xs args ι H w out h hxs r
  simp only [ownClone, Option.bind_eq_some_iff] at h
  obtain ⟨⟨ys, H1⟩, h1, h⟩ := h
  obtain ⟨ι1, r1, e1, v1, p1⟩ := mapHM_sound shutV_sound xs H ys H1 ι w _ h1 hxs r
  simp only [] at h
  split at h
  case h_2 => cases h
  rename_i a n fl cs
  split at h
  case isFalse => cases h
  rename_i hcond
  obtain ⟨c1, c2, c3, c4, c5⟩ := hcond
  simp only [Option.map_eq_some_iff] at h
  obtain ⟨z, hz, rfl⟩ := h
  simp only [VRels] at v1
  obtain ⟨v, us, hargs, hv, rfl⟩ := v1
  obtain ⟨k1, k2, k3⟩ := clone_run (e := e) (bytes := bytes) hes (Q := slimPrg P (fun _ => none) fun _ => 0) (f := f) rfl rfl (hc _ _) H1
  have S := callN_sound hgl hm (own := fun _ => none) (fun f g h => by cases h) (mode := fun _ => 0) 1 f
  have fin : ∀ (x : AV) (o : Out × Heap), VRel nb ι1.bare x v → callN (slimPrg P (fun _ => none) fun _ => 0) 1 f [x] H1.bare = some o → opened H1 (some o) = some (.ret (.L true a z n), H1) →
      (∀ w', (callFunc f args).run P w' = .ok (.enter f args) w') ∧ Calls P f args w (CallPost nb ι H w (.ret (.L true a z n), H1)) := by
    intro x o hx hrun ho
    obtain ⟨g1, g2⟩ := S [x] args ι1.bare H1.bare w o hrun (by rw [hargs]; simp only [VRels]; exact ⟨v, [], rfl, hx, rfl⟩) r1.bareH
    exact ⟨g1, g2.mono fun en w' hp => (hp.opened r1 ho).from e1⟩
  cases n with
  | zero =>
    simp only [VRel] at hv
    obtain ⟨_, ad, cap, rfl, _, _, h3, _⟩ := hv
    simp only [Nat.zero_mul] at c2
    obtain rfl := List.eq_nil_of_length_eq_zero c2
    simp only [canonL, Option.some.injEq] at hz
    subst hz
    cases ad with
    | none =>
      obtain rfl := h3 rfl
      exact fin .nils _ (by simp only [VRel]) k1 rfl
    | some q =>
      obtain ⟨H', k2⟩ := k2
      exact fin .emp _ (by simp only [VRel]; exact ⟨_, _, rfl⟩) k2 rfl
  | succ n =>
    obtain rfl := c1.resolve_right (by omega)
    obtain ⟨x, H', k4, H'', k5⟩ := k3 n cs z c2 c3 c4 c5 hz
    have hv' : VRel nb ι1.bare (.lst a (n + 1) false cs) v := by
      simp only [VRel, Emb.bare_bare] at hv ⊢
      obtain ⟨h0, ad, cap, rfl, h1, h2, h3, h4⟩ := hv
      exact ⟨h0, ad, cap, rfl, h1, fun e => by simp at e, h3, h4⟩
    refine fin _ _ hv' k4 ?_
    simp only [opened, k5, Option.map_some, AV.L]
theorem ownClone_list {α : Type} {f : Bool} {es bytes : Nat} {g : α → List AV} {l : List α} {H : Heap} (hg : ∀ x, (g x).length = es) (hst : ∀ x, Still (g x)) (hfl : ∀ x, (g x).all AV.flat = true) (hb : l.length * bytes ≤ 1099511627776) (hb2 : l.length ≤ 1099511627776) :
    ownClone es bytes [vList f es g l] H = some (.ret (vList true es g l), H) := by
  unfold ownClone
  simp only [mapHM_cons, mapHM_nil, shutV_vList, Option.bind_some, Option.map_some]
  cases l with
  | nil => simp [vList, AV.L, canonL]
  | cons x l =>
    have h1 : (g x ++ l.flatMap g).length = (l.length + 1) * es := by
      have := flat_len hg (x :: l)
      simpa using this
    have h2 : (g x ++ l.flatMap g).all AV.flat = true := by
      rw [List.all_append, hfl, Bool.true_and, List.all_eq_true]
      intro c hc
      obtain ⟨y, _, hy⟩ := List.mem_flatMap.1 hc
      exact List.all_eq_true.1 (hfl y) c hy
    have h3 : Still (g x ++ l.flatMap g) := (hst x).append (Still.flat hst l)
    simp only [vList_cons]
    rw [if_pos ⟨.inl trivial, h1, h2, by simpa using hb, by simpa using hb2⟩, h3.canonL]
    rfl
end Go.Lite

/-
  Two lists of one kind that grow side by side.
-/
namespace Go.Lite
open Go
def Apart (v u : AV) : Prop := ∀ j o n c j' o' n' c', v = .slice (.new j) o n c → u = .slice (.new j') o' n' c' → j ≠ j'
theorem Apart.symm {v u : AV} (h : Apart v u) : Apart u v := fun j o n c j' o' n' c' h1 h2 e => h j' o' n' c' j o n c h2 h1 e.symm
theorem Apart.nils {u : AV} : Apart .nils u := fun j o n c j' o' n' c' h => by cases h
theorem Apart.lst {u : AV} {es n : Nat} {f : Bool} {cs : List AV} : Apart (.lst es n f cs) u := fun j o n c j' o' n' c' h => by cases h
theorem Acc.below {N : Nat} {H : Heap} {e es n : Nat} {cells : List AV} {v : AV} (h : Acc N H e es n cells v) (low : HLow H) {j o m : Nat} {c : Cap} (hv : v = .slice (.new j) o m c) : N ≤ j ∧ j < H.n := by
  rcases h with ⟨_, _, rfl⟩ | ⟨_, _, k, rfl, h3, h4⟩
  · cases hv
  · simp only [AV.slice.injEq, Blk.new.injEq] at hv
    obtain ⟨rfl, _⟩ := hv
    exact ⟨h3, low _ _ h4⟩
theorem Acc.fresh {N : Nat} {H : Heap} {e es n : Nat} {cells : List AV} {v : AV} (h : Acc N H e es n cells v) (low : HLow H) {k o m : Nat} {c : Cap} (hk : H.n ≤ k) : Apart (.slice (.new k) o m c) v := fun j o n c j' o' n' c' h1 h2 e => by
  simp only [AV.slice.injEq, Blk.new.injEq] at h1
  have := h.below low h2
  omega
theorem Acc.one_more {N : Nat} {H : Heap} {e es bs n : Nat} {cells ys : List AV} {v : AV} (h : Acc N H e es n cells v) (hN : N ≤ H.n) (hlow : HLow H) (hes : es ≠ 0) (hys : ys.length = es) (hfl : ys.all AV.flat = true) (hb : (n + 1) * bs ≤ 1099511627776 ∧ n + 1 ≤ 1099511627776) :
    ∃ H', appendOf e es bs H v (1, ys) = some (.slice (.new H.n) 0 (n + 1) (.gro es), H') ∧ Acc N H' e es (n + 1) (cells ++ ys) (.slice (.new H.n) 0 (n + 1) (.gro es)) ∧ HKeep (blk v) H H' ∧ HLow H' ∧ H'.n = H.n + 1 := by
  unfold appendOf
  rw [if_neg (by simp [hes, hfl])]
  rcases h with ⟨rfl, rfl, rfl⟩ | ⟨h1, h2, k, rfl, h5, h3⟩
  · simp only []
    rw [if_neg (by omega), if_pos (by simpa using hb)]
    exact ⟨_, rfl, .inr ⟨by omega, by simpa using hys, H.n, rfl, hN, by simp [Heap.fresh, h_get]⟩, HKeep.push hlow, hlow.push, by simp [Heap.fresh, h_n]⟩
  · simp only []
    rw [if_neg (by omega), if_pos hb]
    simp only [if_true, h3]
    rw [if_pos (by rw [h2]; simp)]
    have hty : tyKeep e 0 (some e) = some e := by simp [tyKeep]
    rw [hty, List.drop_zero, List.take_of_length_le (by omega)]
    refine ⟨_, rfl, .inr ⟨by omega, by rw [List.length_append, h2, hys, Nat.add_mul, Nat.one_mul], H.n, rfl, hN, by simp [Heap.fresh, h_get, h_ndel]⟩, ⟨by simp only [Heap.fresh, h_n, h_ndel]; omega, fun j o hj ho => ?_, fun _ => (hlow.del).push⟩, (hlow.del).push, by simp [Heap.fresh, h_n, h_ndel]⟩
    have hne : j ≠ k := fun e => ho ⟨_, _, _, by rw [e]⟩
    show (((H.del k).push _).t.get j) = some o
    rw [h_get, h_ndel, if_neg (by have := hlow j o hj; omega), h_gdel, if_neg hne]
    exact hj
end Go.Lite

/-
  What stands in the world ahead of a call, as content: whole numbers side by side, and rows of them.
-/
namespace Go.Lite
open Go
variable {nb : NB} {H : Type} {enc : TypeId × Value → H} {P : Program} {W : World} {sp : Nat → Bool} {held : Bool}
end Go.Lite

/-
  More calls that are told, more rounds: what a run came to, it comes to again.
-/
namespace Go.Lite
open Go
def RLe (r r' : R) : Prop := ∀ o, r = some o → r' = some o
theorem RLe.refl {r : R} : RLe r r := fun _ h => h
theorem RLe.trans {r r' r'' : R} (h : RLe r r') (k : RLe r' r'') : RLe r r'' := fun o e => k o (h o e)
theorem RLe.none {r : R} : RLe .none r := fun o h => by cases h
def CallLe (c c' : CallF) : Prop := ∀ f xs H, RLe (c f xs H) (c' f xs H)
theorem RLe.bindO {α : Type} {x : Option α} {k k' : α → R} (h : ∀ a, RLe (k a) (k' a)) : RLe (x.bind k) (x.bind k') := by
  cases x with
  | none => exact RLe.none
  | some a => exact h a
theorem RLe.bindR {r r' : R} {k k' : AV → Heap → R} (h : RLe r r') (hk : ∀ v H, RLe (k v H) (k' v H)) : RLe (bindR r k) (bindR r' k') := by
  cases r with
  | none => exact RLe.none
  | some o =>
    rw [h o rfl]
    obtain ⟨v | v, H⟩ := o
    · exact hk v H
    · exact RLe.refl
theorem sop_mono {c c' : CallF} (hc : CallLe c c') (o : SOp) (fr : Fr) (H : Heap) {k k' : AV → Heap → R} (hk : ∀ v H, RLe (k v H) (k' v H)) : RLe (o.run c fr H k) (o.run c' fr H k') := by
  cases o with
  | p o => exact RLe.bindO fun v => hk v H
  | a o => exact RLe.bindO fun q => hk _ _
  | w o => exact RLe.bindO fun q => hk _ _
  | call f args =>
    refine RLe.bindR ?_ hk
    unfold callV
    split
    · exact hc _ _ _
    · exact RLe.none
  | panic x => exact RLe.refl
theorem soper_mono {c c' : CallF} (hc : CallLe c c') (o : SOper) (fr : Fr) (H : Heap) {k k' : Fr → Heap → R} (hk : ∀ f H, RLe (k f H) (k' f H)) : RLe (o.run c fr H k) (o.run c' fr H k') := by
  refine RLe.bindO fun t => ?_
  cases t
  · exact hk _ _
  · exact sop_mono hc _ _ _ fun v H => hk _ _
theorem runOps_mono {c c' : CallF} (hc : CallLe c c') : ∀ (l : List SOper) (fr : Fr) (H : Heap) {k k' : Fr → Heap → R}, (∀ f H, RLe (k f H) (k' f H)) → RLe (runOps c l fr H k) (runOps c' l fr H k')
  | [], fr, H, k, k', hk => hk fr H
  | o :: l, fr, H, k, k', hk => soper_mono hc o fr H fun f H => runOps_mono hc l f H hk
theorem runPhs_mono {c c' : CallF} (hc : CallLe c c') : ∀ (l : List (SOper × List SOper × List SOper)) (fr : Fr) (H : Heap) {k k' : Fr → Heap → R}, (∀ f H, RLe (k f H) (k' f H)) → RLe (runPhs c l fr H k) (runPhs c' l fr H k')
  | [], fr, H, k, k', hk => hk fr H
  | (o, cks, sm) :: l, fr, H, k, k', hk => by
    simp only [runPhs]
    refine soper_mono hc o fr H fun f G => ?_
    cases cks.all (·.again f G)
    · exact RLe.none
    · exact runOps_mono hc sm f G fun f G => runPhs_mono hc l f G hk
theorem loopN_mono {b b' : Fr → Heap → (Ex → Fr → Heap → R) → R} (hb : ∀ fr H k k', (∀ e f H, RLe (k e f H) (k' e f H)) → RLe (b fr H k) (b' fr H k')) : ∀ (m m' : Nat), m ≤ m' → ∀ (fr : Fr) (H : Heap) {k k' : Ex → Fr → Heap → R}, (∀ e f H, RLe (k e f H) (k' e f H)) → RLe (loopN b m fr H k) (loopN b' m' fr H k')
  | 0, m', _, fr, H, k, k', hk => RLe.none
  | m + 1, 0, h, _, _, _, _, _ => by omega
  | m + 1, m' + 1, h, fr, H, k, k', hk => by
    simp only [loopN]
    refine hb _ _ _ _ fun e f G => ?_
    cases e with
    | normal => exact loopN_mono hb m m' (by omega) f G hk
    | exit i => exact hk _ _ _
    | ret => exact hk _ _ _
theorem code_mono {c c' : CallF} (hc : CallLe c c') {n n' : Nat} (hn : n ≤ n') : ∀ (x : SCode) (fr : Fr) (H : Heap) {k k' : Ex → Fr → Heap → R}, (∀ e f H, RLe (k e f H) (k' e f H)) → RLe (x.run c n fr H k) (x.run c' n' fr H k')
  | .skip, fr, H, k, k', hk => hk _ _ _
  | .ops l, fr, H, k, k', hk => runOps_mono hc l fr H fun f H => hk _ _ _
  | .draw pre phs, fr, H, k, k', hk => runOps_mono hc pre fr H fun f H => runPhs_mono hc phs f H fun f H => hk _ _ _
  | .draw2 pre phs a b, fr, H, k, k', hk => by
    refine runOps_mono hc pre fr H fun f H => runPhs_mono hc phs f H fun f H => ?_
    cases asunder a b f
    · exact RLe.none
    · simp only [cond_true]
      exact soper_mono hc a f H fun f H => soper_mono hc b f H fun f H => hk _ _ _
  | .seq a b, fr, H, k, k', hk => by
    refine code_mono hc hn a fr H fun e f G => ?_
    cases e with
    | normal => exact code_mono hc hn b f G hk
    | exit i => exact hk _ _ _
    | ret => exact hk _ _ _
  | .cond x a b, fr, H, k, k', hk => by
    refine RLe.bindO fun t => ?_
    cases t
    · exact code_mono hc hn b fr H hk
    · exact code_mono hc hn a fr H hk
  | .block id b, fr, H, k, k', hk => by
    refine code_mono hc hn b fr H fun e f G => ?_
    cases e with
    | normal => exact hk _ _ _
    | exit i =>
      simp only []
      cases Nat.beq i id
      · exact hk _ _ _
      · exact hk _ _ _
    | ret => exact hk _ _ _
  | .loop b, fr, H, k, k', hk => loopN_mono (fun fr H k k' hk => code_mono hc hn b fr H hk) n n' hn fr H hk
  | .exit id, fr, H, k, k', hk => hk _ _ _
  | .ret, fr, H, k, k', hk => hk _ _ _
theorem opened_mono {H : Heap} {r r' : R} (h : RLe r r') : RLe (opened H r) (opened H r') := by
  cases r with
  | none => exact RLe.none
  | some o => rw [h o rfl]; exact RLe.refl
theorem settled_mono {r r' : R} (h : RLe r r') : RLe (settled r) (settled r') := by
  cases r with
  | none => exact RLe.none
  | some o => rw [h o rfl]; exact RLe.refl
structure PrgLe (P Q : Prg) : Prop where
  code : Q.code = P.code
  mode : Q.mode = P.mode
  none : ∀ f, P.own f = .none → Q.own f = .none
  some : ∀ f g, P.own f = .some g → ∃ g', Q.own f = .some g' ∧ ∀ xs H, RLe (g xs H) (g' xs H)
theorem PrgLe.refl (P : Prg) : PrgLe P P := ⟨rfl, rfl, fun f h => h, fun f g h => ⟨g, h, fun _ _ => RLe.refl⟩⟩
theorem PrgLe.sealed {P Q : Prg} (h : PrgLe P Q) (f : FuncId) : PrgLe (P.seal f) (Q.seal f) := ⟨h.code, by simp only [Prg.seal, h.mode], h.none, h.some⟩
end Go.Lite
