/-
  Several texts in one: AMach, TClose, TEval, TMach, TMachB, TForce, TNums, TOne, TTwo.
-/
import Derived.Test.YtmfdlglhngmacaaGreatDoorUF
import Derived.Test.YtmfdlglhngmacaaGreatDoorUG
import Derived.Recover
import Derived.Tactics2
import Derived.Test.YtmfdlglhngmacaaGreatDoorUE

set_option linter.unusedSimpArgs false
set_option linter.unusedVariables false
set_option linter.defProp false
set_option maxRecDepth 100000

/-
  The document's machine, without a program in sight: cells, values, steps, uses; what is printed.
-/
namespace Go.Lite
abbrev Env := List (Str × Nat)
inductive V where
  | atom (k : Int) (t : Str)
  | pair (a b : Nat)
  | fn (e : X) (env : Env) (given : List Nat)
def V.kind : V → Int
  | .atom k _ => k
  | .pair _ _ => 5
  | .fn _ _ _ => 6
def V.text : V → Str
  | .atom _ t => t
  | _ => []
inductive C where
  | wait (e : X) (env : Env)
  | busy (e : X) (env : Env)
  | done (v : V)
structure S where
  cells : List C
  steps : Nat
  uses : Nat
inductive O (α : Type) where
  | val (a : α) (s : S)
  | stop (k : Int) (t : Str) (s : S)
def O.bind {α β : Type} : O α → (α → S → Option (O β)) → Option (O β)
  | .val a s, f => f a s
  | .stop k t s, _ => some (.stop k t s)
def emptyT : Str := [40, 41]
def trueT : Str := [35, 116]
def falseT : Str := [35, 102]
def truthV (b : Bool) : V := .atom 2 (if b then trueT else falseT)
def V.isFalse (v : V) : Bool := v.kind == 2 && v.text == falseT
def constV (k : Int) (t : Str) : V := if k = 1 then .atom 1 t else if k = 2 then .atom 2 t else if k = 4 then .atom 4 t else .atom 3 emptyT
def S.new (s : S) (c : C) : Nat × S := (s.cells.length, { s with cells := s.cells ++ [c] })
def S.set (s : S) (i : Nat) (c : C) : S := { s with cells := s.cells.set i c }
def S.tick (s : S) : S := ⟨s.cells, s.steps + 1, s.uses⟩
def S.used (s : S) : S := ⟨s.cells, s.steps, s.uses + 1⟩
def S.more (s : S) (cs : List C) : S := ⟨s.cells ++ cs, s.steps, s.uses⟩
def lookA (env : Env) (name : Str) (s : S) : Nat × S :=
  match env.find? fun p => p.1 == name with
  | some p => (p.2, s)
  | none => s.new (.done (.atom 3 emptyT))
def argA (e : X) (env : Env) (s : S) : Nat × S :=
  match e with
  | .mk k t _ _ => if k = 5 then lookA env t s else if 1 ≤ k ∧ k ≤ 4 then s.new (.done (constV k t)) else s.new (.wait e env)
def argsA (env : Env) : List X → S → List Nat × S
  | [], s => ([], s)
  | e :: l, s => ((argA e env s).1 :: (argsA env l (argA e env s).2).1, (argsA env l (argA e env s).2).2)
def letEnv (ns : List Str) (i : Nat) (env : Env) : Env :=
  match ns with
  | [] => env
  | n :: ns => letEnv ns (i + 1) ((n, i) :: env)
noncomputable def numOf (t : Str) : Int := open Classical in if h : ∃ z : Int, t = decZ z then h.choose else 0
theorem numOf_decZ (z : Int) : numOf (decZ z) = z := by
  unfold numOf
  have h : ∃ y : Int, decZ z = decZ y := ⟨z, rfl⟩
  rw [dif_pos h]
  exact (decZ_inj h.choose_spec).symm
def opPlus : Str := [43]
def opMinus : Str := [45]
def opTimes : Str := [42]
def opLess : Str := [60]
def opSame : Str := [61]
def opRem : Str := [114, 101, 109, 97, 105, 110, 100, 101, 114]
def numA (z : Int) (s : S) : O V := if z.natAbs < 10 ^ 200 then .val (.atom 1 (decZ z)) s else .stop 7 [] s
noncomputable def numsA (op a b : Str) (s : S) : O V :=
  let x := numOf a
  let y := numOf b
  if op = opPlus then numA (x + y) s
  else if op = opMinus then numA (x - y) s
  else if op = opTimes then numA (x * y) s
  else if op = opLess then .val (truthV (decide (x < y))) s
  else if op = opSame then .val (truthV (decide (x = y))) s
  else if y = 0 then .stop 2 [122, 101, 114, 111] s
  else if op = opRem then .val (.atom 1 (decZ (x.tmod y))) s
  else .val (.atom 1 (decZ (x.tdiv y))) s
def carT : Str := [99, 97, 114]
def cdrT : Str := [99, 100, 114]
def seqT : Str := [115, 101, 113]
def eqP : Str := [101, 113, 63]
def nullT : Str := [110, 117, 108, 108, 63]
def pairT : Str := [112, 97, 105, 114, 63]
def integerT : Str := [105, 110, 116, 101, 103, 101, 114, 63]
def symbolT : Str := [115, 121, 109, 98, 111, 108, 63]
def notT : Str := [110, 111, 116]
def errorT : Str := [101, 114, 114, 111, 114]
def consP : Str := [99, 111, 110, 115]
noncomputable section
mutual
def evalA (fuel : Nat) : Nat → X → Env → S → Option (O V)
  | 0, _, _, _ => none
  | n + 1, .mk k t ns l, env, s =>
    if s.tick.steps > fuel then some (.stop 6 [] s.tick)
    else if k = 5 then forceA fuel n (lookA env t s.tick).1 (lookA env t s.tick).2
    else if k = 6 then some (.val (.fn (.mk k t ns l) env []) s.tick)
    else if k = 7 then match l with
      | [] => none
      | f :: la => (evalA fuel n f env s.tick).bind fun r => r.bind fun v s => applyA fuel n v (argsA env la s).1 (argsA env la s).2
    else if k = 8 then match l with
      | [c, a, b] => (evalA fuel n c env s.tick).bind fun r => r.bind fun v s => evalA fuel n (if v.isFalse then b else a) env s
      | _ => none
    else if k = 9 then match l[ns.length]? with
      | some b => evalA fuel n b (letEnv ns s.cells.length env) (s.tick.more ((l.take ns.length).map fun e => C.wait e (letEnv ns s.cells.length env)))
      | none => none
    else if k = 10 then match l with
      | [a, b] =>
        if t = consP then some (.val (.pair (argA a env s.tick).1 (argA b env (argA a env s.tick).2).1) (argA b env (argA a env s.tick).2).2)
        else (evalA fuel n a env s.tick).bind fun r => r.bind fun v s =>
          if t = seqT then evalA fuel n b env s
          else if t = eqP then (evalA fuel n b env s).bind fun r => r.bind fun w s => some (.val (truthV (decide (v.kind < 5) && (v.kind == w.kind && v.text == w.text))) s)
          else if v.kind ≠ 1 then some (.stop 2 [110, 117, 109, 98, 101, 114] s)
          else (evalA fuel n b env s).bind fun r => r.bind fun w s => if w.kind ≠ 1 then some (.stop 2 [110, 117, 109, 98, 101, 114] s) else some (numsA t v.text w.text s)
      | [a] => (evalA fuel n a env s.tick).bind fun r => r.bind fun v s =>
        if t = carT ∨ t = cdrT then match v with
          | .pair p q => forceA fuel n (if t = carT then p else q) s
          | _ => some (.stop 2 [112, 97, 105, 114] s)
        else if t = nullT then some (.val (truthV (v.kind == 3)) s)
        else if t = pairT then some (.val (truthV (v.kind == 5)) s)
        else if t = integerT then some (.val (truthV (v.kind == 1)) s)
        else if t = symbolT then some (.val (truthV (v.kind == 4)) s)
        else if t = notT then some (.val (truthV v.isFalse) s)
        else some (.stop 2 (if v.kind < 5 then errorT ++ 32 :: v.text else errorT) s)
      | _ => none
    else some (.val (constV k t) s.tick)
def forceA (fuel : Nat) : Nat → Nat → S → Option (O V)
  | 0, _, _ => none
  | n + 1, c, s => match s.cells[c]? with
    | some (.done v) => some (.val v s)
    | some (.busy _ _) => some (.stop 3 [] s)
    | some (.wait e env) => (evalA fuel n e env (s.set c (.busy e env)).used).bind fun r => r.bind fun v s => some (.val v (s.set c (.done v)))
    | none => none
def applyA (fuel : Nat) : Nat → V → List Nat → S → Option (O V)
  | 0, _, _, _ => none
  | n + 1, v, l, s => if l = [] then some (.val v s) else match v with
    | .fn (.mk k t ns a) env g =>
      if l.length < ns.length - g.length then some (.val (.fn (.mk k t ns a) env (g ++ l)) s)
      else match a with
        | [] => none
        | b :: _ => (evalA fuel n b ((ns.zip (g ++ l.take (ns.length - g.length))).reverse ++ env) s).bind fun r => r.bind fun v s => applyA fuel n v (l.drop (ns.length - g.length)) s
    | _ => some (.stop 2 [97, 112, 112, 108, 121] s)
end
def sayA (out t : Str) (s : S) : O Str := if out.length + t.length > 2000 then .stop 7 [] s else .val (out ++ t) s
mutual
def printA (fuel : Nat) : Nat → Str → V → S → Option (O Str)
  | 0, _, _, _ => none
  | n + 1, out, v, s => match v with
    | .atom _ t => some (sayA out t s)
    | .fn _ _ _ => some (sayA out [35, 60, 102, 117, 110, 99, 116, 105, 111, 110, 62] s)
    | .pair a b => (sayA out [40] s).bind fun out s => rowA fuel n out a b s
def rowA (fuel : Nat) : Nat → Str → Nat → Nat → S → Option (O Str)
  | 0, _, _, _, _ => none
  | n + 1, out, a, b, s => (forceA fuel n a s).bind fun r => r.bind fun v s => (printA fuel n out v s).bind fun r => r.bind fun out s =>
      (forceA fuel n b s).bind fun r => r.bind fun w s => match w with
        | .pair c d => (sayA out [32] s).bind fun out s => rowA fuel n out c d s
        | w => if w.kind = 3 then some (sayA out [41] s) else (sayA out [32, 46, 32] s).bind fun out s => (printA fuel n out w s).bind fun r => r.bind fun out s => some (sayA out [41] s)
end
def inputA : List Str → S → Nat × S
  | [], s => s.new (.done (.atom 3 emptyT))
  | t :: l, s =>
    let r := inputA l s
    let a := r.2.new (.done (.atom 1 t))
    a.2.new (.done (.pair a.1 r.1))
def inputT : Str := [105, 110, 112, 117, 116]
end
end Go.Lite

/-
  What Eval does when it ends: the deferred closure, by parts.
-/
namespace Go.Lite
open Go Go.Proofs
def cdL : Code → Code | .seq a _ => a | c => c
def cdR : Code → Code | .seq _ b => b | c => c
def cdB : Code → Code | .block _ c => c | c => c
def scL : SCode → SCode | .seq a _ => a | c => c
def scR : SCode → SCode | .seq _ b => b | c => c
def scB : SCode → SCode | .block _ c => c | c => c
noncomputable def body26 : Code := (Tryz.f25.body).getD .skip
theorem body26_eq : Tryz.f25.body = some (.seq (cdL body26) (.seq (cdL (cdR body26)) (.block 0 (.seq (cdL (cdB (cdR (cdR body26)))) (cdR (cdB (cdR (cdR body26)))))))) := by rfl
theorem slim26a : slimCode Tryz.prog 28 (cdL body26) = scL c25.body := by kernel_rfl
theorem slim26c : slimCode Tryz.prog 28 (cdR (cdB (cdR (cdR body26)))) = scR (scB (scR (scR c25.body))) := by kernel_rfl
theorem reg26 : ∃ pos, cdL (cdR body26) = .region 1 #[{ dst := some 21, op := .call { callee := .builtin .recover, args := #[], argTypes := #[] }, type := 20, pos := pos, after := #[], guard := none }] false := ⟨_, rfl⟩
theorem tst26 : ∃ pos, cdL (cdB (cdR (cdR body26))) = .region 4 #[{ dst := some 23, op := .binOp .eql 20 (.tmp 21) (.const .nilIface) 20, type := 4, pos := pos, after := #[], guard := none }] false := ⟨_, rfl⟩
noncomputable def Kp (Post : Ex → Fr → Heap → Prop) : Ex → Fr → Heap → R := fun e fr H => open Classical in if Post e fr H then some (.ret .nilp, heap0) else none
theorem Kp_gives {Post : Ex → Fr → Heap → Prop} {e : Ex} {fr : Fr} {H : Heap} (h : Post e fr H) : Kp Post e fr H = some (.ret .nilp, heap0) := by
  unfold Kp; rw [if_pos h]
theorem Kp_of {Post : Ex → Fr → Heap → Prop} {e : Ex} {fr : Fr} {H : Heap} {o : Out × Heap} (h : Kp Post e fr H = some o) : Post e fr H := by
  unfold Kp at h
  split at h
  · assumption
  · cases h
theorem part_sound {P : Program} {nb : NB} {ι : Emb} {H : Heap} {w : World} {nt : Nat} (hgl : P.globals.size ≤ nb.n) (hm : P.follows .mixedOrders = true) {call : CallF} (hcall : CallsOk P nb call) {n : Nat} {c : Code} {fr : Fr} {a : Act} {Post : Ex → Fr → Heap → Prop}
    (hf : FRel nb ι fr a.tmps) (hn : a.tmps.size = nt) (r : Rel nb ι H w) (h : (slimCode P nt c).run call n fr H (Kp Post) = some (.ret .nilp, heap0)) (hpost : ∀ e fr H, Post e fr H → e = .normal)
    {Q : Exit → Act → World → Prop} (hQ : ∀ (ι' : Emb) (fr' : Fr) (H' : Heap) (a' : Act) (w' : World), FRel nb ι' fr' a'.tmps → a'.tmps.size = nt → a'.defers = a.defers → Rel nb ι' H' w' → Ext nb ι H w ι' H' w' → Post .normal fr' H' → Q .normal a' w') : c.wp P Q a w := by
  refine wp_mono (code_sound (nt := nt) hgl hm hcall c hf hn rfl r h) fun e a' w' hp => ?_
  cases e <;> simp only [CodePost] at hp
  case normal =>
    obtain ⟨ι', fr', H', g1, g2, g3, g4, g5, g6⟩ := hp
    exact hQ ι' fr' H' a' w' g1 g2 g3 g4 g5 (Kp_of g6)
  case exit id =>
    obtain ⟨ι', fr', H', g1, g2, g3, g4, g5, g6⟩ := hp
    cases hpost _ _ _ (Kp_of g6)
  case ret =>
    obtain ⟨ι', fr', H', g1, g2, g3, g4, g5, g6⟩ := hp
    cases hpost _ _ _ (Kp_of g6)
  case panic ch =>
    obtain ⟨ι', x, v, g1, _⟩ := hp
    cases g1
theorem frel_init {nb : NB} {ι : Emb} {xs : List AV} {args : Array Value} {nt : Nat} (hxs : VRels nb ι xs args.toList) (hle : xs.length ≤ nt) : FRel nb ι (initFr xs) (args ++ Array.replicate (nt - args.size) undef) := fun t => by
  unfold initFr
  cases hx : xs[t]? with
  | none => simp only [Option.getD_none, VRel]
  | some x =>
    obtain ⟨u, hu, hr⟩ := hxs.get t x hx
    have hlt : t < args.size := by
      have := (List.getElem?_eq_some_iff.1 hu).1
      simpa using this
    have hu' : args[t]? = some u := by simpa using hu
    have : (args ++ Array.replicate (nt - args.size) undef).getD t undef = u := by
      rw [Array.getD_eq_getD_getElem?, Array.getElem?_append_left hlt, hu']; rfl
    rw [this]
    exact hr
theorem no_calls {P : Program} {nb : NB} : CallsOk P nb (fun _ _ _ => none) := fun f xs args ι H w out h => by cases h
structure Ended (H : Heap) (k6 k7 k8 k9 kw kc : Nat) (st us fu : Int) : Prop where
  g9 : H.t.get k9 = some (.row [.ptr (.new kw) 0] 0 false (some 61))
  gw : ∃ wa wb, H.t.get kw = some (.row [.ptr (.new kc) 0, wa, wb] 0 false (some 69))
  gc : H.t.get kc = some (.row [.int .i64 st, .int .i64 us, .int .i64 fu] 0 false (some 64))
  g7 : ∃ x, H.t.get k7 = some (.row [x] 0 false (some 3))
  g8 : ∃ x, H.t.get k8 = some (.row [x] 0 false (some 3))
  g6 : ∃ x y z, H.t.get k6 = some (.row [x, y, z] 0 false (some 34))
  n67 : k6 ≠ k7
  n68 : k6 ≠ k8
  n69 : k6 ≠ k9
  n78 : k7 ≠ k8
  n79 : k7 ≠ k9
  n7w : k7 ≠ kw
  n7c : k7 ≠ kc
  n89 : k8 ≠ k9
theorem run26a {n : Nat} {H : Heap} {k6 k7 k8 k9 kw kc : Nat} {st us fu : Int} (e : Ended H k6 k7 k8 k9 kw kc st us fu) {Post : Ex → Fr → Heap → Prop}
    (h : ∀ (fr : Fr) (H' : Heap), fr 0 = .ptr (.new k9) 0 → fr 1 = .ptr (.new k7) 0 → fr 2 = .ptr (.new k8) 0 → fr 3 = .ptr (.new k6) 0 → H'.t.get k7 = some (.row [.int .i64 st] 0 false (some 3)) → H'.t.get k8 = some (.row [.int .i64 us] 0 false (some 3)) → H'.t.get k6 = H.t.get k6 → Post .normal fr H') :
    (slimCode Tryz.prog 28 (cdL body26)).run (fun _ _ _ => none) n (initFr [.ptr (.new k9) 0, .ptr (.new k7) 0, .ptr (.new k8) 0, .ptr (.new k6) 0]) H (Kp Post) = some (.ret .nilp, heap0) := by
  obtain ⟨g9, ⟨wa, wb, gw⟩, gc, ⟨x7, g7⟩, ⟨x8, g8⟩, ⟨xa, xb, xc, g6⟩, n67, n68, n69, n78, n79, n7w, n7c, n89⟩ := e
  have m1 : ¬ k9 = k7 := fun h => n79 h.symm
  have m2 : ¬ kw = k7 := fun h => n7w h.symm
  have m3 : ¬ kc = k7 := fun h => n7c h.symm
  have m4 : ¬ k8 = k7 := fun h => n78 h.symm
  have m5 : ¬ k7 = k8 := n78
  have m6 : ¬ k6 = k7 := n67
  have m7 : ¬ k6 = k8 := n68
  have p1 : ∀ fr G, fr 0 = .ptr (.new k9) 0 → fr 1 = .ptr (.new k7) 0 → fr 2 = .ptr (.new k8) 0 → fr 3 = .ptr (.new k6) 0 → G = (H.put k7 (.row [.int .i64 st] 0 false (some 3))).put k8 (.row [.int .i64 us] 0 false (some 3)) → Kp Post .normal fr G = some (.ret .nilp, heap0) := fun fr G q0 q1 q2 q3 hG => by
    subst hG
    exact Kp_gives (h fr _ q0 q1 q2 q3 (by rw [h_gput, if_neg m5, h_gput, if_pos rfl]) (by rw [h_gput, if_pos rfl]) (by rw [h_gput, if_neg m7, h_gput, if_neg m6]))
  rw [slim26a]
  simp -implicitDefEqProofs only [c25, scL, ↓v_lenS, ZZ, Nat.reduceBEq, reduceIte, Nat.reduceAdd, Nat.reduceLeDiff, Nat.reduceEqDiff, Nat.reduceBneDiff, CL, g9, gw, gc, g7, g8, m1, m2, m3, m4]
  refine p1 _ _ ?_ ?_ ?_ ?_ rfl
  all_goals simp -implicitDefEqProofs only [↓v_lenS, ZZ, Nat.reduceBEq, reduceIte, Nat.reduceAdd, Nat.reduceLeDiff, Nat.reduceEqDiff, Nat.reduceBneDiff]
  all_goals rfl
theorem run26c {n : Nat} {H : Heap} {fr : Fr} {k6 : Nat} {k z : Int} {t : Str} {ka kb kc : AV} (low : HLow H) (q3 : fr 3 = .ptr (.new k6) 0) (q21 : fr 21 = .iface 76 (.agg [.int .i64 k, .str t, .int .i64 z])) (q23 : fr 23 = .bool false) (g6 : H.t.get k6 = some (.row [ka, kb, kc] 0 false (some 34))) {Post : Ex → Fr → Heap → Prop}
    (h : ∀ (fr : Fr) (H' : Heap), H'.t.get k6 = some (.row [.int .i64 k, .str t, .int .i64 z] 0 false (some 34)) → (∀ j o, j ≠ k6 → H.t.get j = some o → H'.t.get j = some o) → Post .normal fr H') :
    (slimCode Tryz.prog 28 (cdR (cdB (cdR (cdR body26))))).run (fun _ _ _ => none) n fr H (Kp Post) = some (.ret .nilp, heap0) := by
  have m0 := low.lt g6
  have m1 : ¬ k6 = H.n := by omega
  have m2 : ¬ H.n = k6 := by omega
  rw [slim26c]
  simp -implicitDefEqProofs only [c25, scL, scR, scB, ↓v_lenS, ZZ, Nat.reduceBEq, reduceIte, Nat.reduceAdd, Nat.reduceLeDiff, Nat.reduceEqDiff, Nat.reduceBneDiff, CL, q3, q21, q23, g6, m1, m2]
  refine Kp_gives (h _ _ (by rw [h_gput, if_pos rfl]) fun j o hj ho => ?_)
  have := low j o ho
  rw [h_gput, if_neg hj, h_gput, if_neg (by omega), h_get, if_neg (by omega)]
  exact ho
theorem run26d {n : Nat} {H : Heap} {fr : Fr} (q21 : fr 21 = .nili) (q23 : fr 23 = .bool true) {Post : Ex → Fr → Heap → Prop} (h : ∀ fr : Fr, Post .normal fr H) :
    (slimCode Tryz.prog 28 (cdR (cdB (cdR (cdR body26))))).run (fun _ _ _ => none) n fr H (Kp Post) = some (.ret .nilp, heap0) := by
  rw [slim26c]
  simp -implicitDefEqProofs only [c25, scL, scR, scB, ↓v_lenS, ZZ, Nat.reduceBEq, reduceIte, Nat.reduceAdd, Nat.reduceLeDiff, Nat.reduceEqDiff, Nat.reduceBneDiff, CL, q21, q23]
  exact Kp_gives (h _)
theorem close_caught {nb : NB} {ι : Emb} {H : Heap} {w : World} (hgl : (Tryz.prog).globals.size ≤ nb.n) {args : Array Value} {k6 k7 k8 k9 kw kc : Nat} {st us fu k z : Int} {t : Str} (ed : Ended H k6 k7 k8 k9 kw kc st us fu)
    (hxs : VRels nb ι [.ptr (.new k9) 0, .ptr (.new k7) 0, .ptr (.new k8) 0, .ptr (.new k6) 0] args.toList) (r : Rel nb ι H w) {T : TypeId} {pv : Value} (hv : VRel nb ι (.iface 76 (.agg [.int .i64 k, .str t, .int .i64 z])) (.iface T pv)) (older : List PanicEntry) :
    CallsD Tryz.prog 25 args (.panicking ({ v := .iface T pv, recovered := false } :: older)) w fun e u' w' => e = .returned (.tuple #[]) ∧ u' = .panicking ({ v := .iface T pv, recovered := true } :: older) ∧
      ∃ ι' H', Rel nb ι' H' w' ∧ Ext nb ι H w ι' H' w' ∧ H'.t.get k7 = some (.row [.int .i64 st] 0 false (some 3)) ∧ H'.t.get k8 = some (.row [.int .i64 us] 0 false (some 3)) ∧ H'.t.get k6 = some (.row [.int .i64 k, .str t, .int .i64 z] 0 false (some 34)) := by
  have hm : (Tryz.prog).follows .mixedOrders = true := by kernel_rfl
  refine callsD_of_wpS Tryz.func25 body26_eq fun c₀ cs hu => ?_
  apply wpS_seq
  have hlen : args.size = 4 := by have := hxs.length; simpa using this
  have hsz : (args ++ Array.replicate (28 - args.size) undef).size = 28 := by simp; omega
  have hnt : Tryz.f25.ntmps = 28 := by kernel_rfl
  rw [hnt]
  refine wpS_of_wp (part_sound hgl hm no_calls (n := 1) (frel_init hxs (by simp)) hsz r (run26a ed (Post := fun e fr H' => e = .normal ∧ fr 3 = .ptr (.new k6) 0 ∧ H'.t.get k7 = some (.row [.int .i64 st] 0 false (some 3)) ∧ H'.t.get k8 = some (.row [.int .i64 us] 0 false (some 3)) ∧ ∃ x y z, H'.t.get k6 = some (.row [x, y, z] 0 false (some 34)))
    (fun fr H' q0 q1 q2 q3 g7 g8 g6 => ⟨rfl, q3, g7, g8, by rw [g6]; exact ed.g6⟩)) (fun e fr H h => h.1) ?_)
  rintro ι1 fr1 H1 a1 w1 hf1 hn1 hd1 r1 e1 ⟨_, q3, g7, g8, x6, y6, z6, g6⟩
  simp only [Exit.thenS]
  apply wpS_seq
  obtain ⟨pos, hreg⟩ := reg26
  rw [hreg]
  apply wpS_region
  have hv1 := VRel.mono e1.le _ _ hv
  simp [wpOpsS, go_sem, recoverD, hu, Exit.thenS]
  refine wpS_of_wp (wp_block (wp_seq ?_))
  obtain ⟨pos2, htst⟩ := tst26
  rw [htst]
  refine wp_region ?_
  have h21 : (a1.tmps.setIfInBounds 21 (Value.iface T pv))[21]? = some (Value.iface T pv) := by rw [Array.getElem?_setIfInBounds_self_of_lt (by omega)]
  simp [wpOps, go_sem, Act.eval, h21, Exit.then, hn1]
  left
  have hf2 : FRel nb ι1 ((fr1.set 21 (.iface 76 (.agg [.int .i64 k, .str t, .int .i64 z]))).set 23 (.bool false)) ((a1.tmps.setIfInBounds 21 (Value.iface T pv)).setIfInBounds 23 (Value.bool false)) :=
    (hf1.set (by omega) hv1).set (by simp; omega) (by simp only [VRel])
  have hs2 : ((a1.tmps.setIfInBounds 21 (Value.iface T pv)).setIfInBounds 23 (Value.bool false)).size = 28 := by rw [Array.size_setIfInBounds, Array.size_setIfInBounds, hn1]
  have low1 : HLow H1 := r1.lt
  refine part_sound (nt := 28) hgl hm no_calls (n := 1) hf2 hs2 r1 (run26c (Post := fun e fr H' => e = .normal ∧ H'.t.get k6 = some (.row [.int .i64 k, .str t, .int .i64 z] 0 false (some 34)) ∧ H'.t.get k7 = some (.row [.int .i64 st] 0 false (some 3)) ∧ H'.t.get k8 = some (.row [.int .i64 us] 0 false (some 3))) low1
    (by simp -implicitDefEqProofs only [↓v_lenS, ZZ, Nat.reduceBEq, reduceIte, Nat.reduceAdd, Nat.reduceLeDiff, Nat.reduceEqDiff, Nat.reduceBneDiff, q3]) (by simp -implicitDefEqProofs only [↓v_lenS, ZZ, Nat.reduceBEq, reduceIte, Nat.reduceAdd, Nat.reduceLeDiff, Nat.reduceEqDiff, Nat.reduceBneDiff]) (by simp -implicitDefEqProofs only [↓v_lenS, ZZ, Nat.reduceBEq, reduceIte, Nat.reduceAdd, Nat.reduceLeDiff, Nat.reduceEqDiff, Nat.reduceBneDiff]) g6 (fun fr H' h1 h2 => ⟨rfl, h1, h2 _ _ (fun h => ed.n67 h.symm) g7, h2 _ _ (fun h => ed.n68 h.symm) g8⟩)) (fun e fr H h => h.1) ?_
  rintro ι2 fr2 H2 a2 w2 hf3 hn3 hd3 r3 e3 ⟨_, h6, h7, h8⟩
  simp only [Exit.inBlock, bodyPostS]
  have hres : (results Tryz.f25 a2.tmps).run Tryz.prog w2 = .ok (.tuple #[]) w2 := by
    have h0 : Tryz.f25.results = #[] := by kernel_rfl
    simp [results, h0]
  exact ⟨hd3.trans hd1, _, rfl, _, hres, rfl, rfl, ι2, H2, r3, e1.trans e3, h7, h8, h6⟩
theorem close_idle {nb : NB} {ι : Emb} {H : Heap} {w : World} (hgl : (Tryz.prog).globals.size ≤ nb.n) {args : Array Value} {k6 k7 k8 k9 kw kc : Nat} {st us fu : Int} {o6 : Obj} (h6 : H.t.get k6 = some o6) (ed : Ended H k6 k7 k8 k9 kw kc st us fu)
    (hxs : VRels nb ι [.ptr (.new k9) 0, .ptr (.new k7) 0, .ptr (.new k8) 0, .ptr (.new k6) 0] args.toList) (r : Rel nb ι H w) :
    CallsD Tryz.prog 25 args .returning w fun e u' w' => e = .returned (.tuple #[]) ∧ u' = .returning ∧
      ∃ ι' H', Rel nb ι' H' w' ∧ Ext nb ι H w ι' H' w' ∧ H'.t.get k7 = some (.row [.int .i64 st] 0 false (some 3)) ∧ H'.t.get k8 = some (.row [.int .i64 us] 0 false (some 3)) ∧ H'.t.get k6 = some o6 := by
  have hm : (Tryz.prog).follows .mixedOrders = true := by kernel_rfl
  refine callsD_of_wpS Tryz.func25 body26_eq fun c₀ cs hu => ?_
  apply wpS_seq
  have hlen : args.size = 4 := by have := hxs.length; simpa using this
  have hsz : (args ++ Array.replicate (28 - args.size) undef).size = 28 := by simp; omega
  have hnt : Tryz.f25.ntmps = 28 := by kernel_rfl
  rw [hnt]
  refine wpS_of_wp (part_sound hgl hm no_calls (n := 1) (frel_init hxs (by simp)) hsz r (run26a ed (Post := fun e fr H' => e = .normal ∧ fr 3 = .ptr (.new k6) 0 ∧ H'.t.get k7 = some (.row [.int .i64 st] 0 false (some 3)) ∧ H'.t.get k8 = some (.row [.int .i64 us] 0 false (some 3)) ∧ H'.t.get k6 = some o6)
    (fun fr H' q0 q1 q2 q3 g7 g8 g6 => ⟨rfl, q3, g7, g8, by rw [g6]; exact h6⟩)) (fun e fr H h => h.1) ?_)
  rintro ι1 fr1 H1 a1 w1 hf1 hn1 hd1 r1 e1 ⟨_, q3, g7, g8, g6⟩
  simp only [Exit.thenS]
  apply wpS_seq
  obtain ⟨pos, hreg⟩ := reg26
  rw [hreg]
  apply wpS_region
  simp [wpOpsS, go_sem, recoverD, hu, Exit.thenS]
  refine wpS_of_wp (wp_block (wp_seq ?_))
  obtain ⟨pos2, htst⟩ := tst26
  rw [htst]
  refine wp_region ?_
  have h21 : (a1.tmps.setIfInBounds 21 Value.nilIface)[21]? = some Value.nilIface := by rw [Array.getElem?_setIfInBounds_self_of_lt (by omega)]
  simp [wpOps, go_sem, Act.eval, h21, Exit.then, hn1]
  left
  have hf2 : FRel nb ι1 ((fr1.set 21 .nili).set 23 (.bool true)) ((a1.tmps.setIfInBounds 21 Value.nilIface).setIfInBounds 23 (Value.bool true)) :=
    (hf1.set (by omega) (by simp only [VRel])).set (by simp; omega) (by simp only [VRel])
  have hs2 : ((a1.tmps.setIfInBounds 21 Value.nilIface).setIfInBounds 23 (Value.bool true)).size = 28 := by rw [Array.size_setIfInBounds, Array.size_setIfInBounds, hn1]
  have low1 : HLow H1 := r1.lt
  refine part_sound (nt := 28) hgl hm no_calls (n := 1) hf2 hs2 r1 (run26d (H := H1) (Post := fun e fr H' => e = .normal ∧ H' = H1) (by simp -implicitDefEqProofs only [↓v_lenS, ZZ, Nat.reduceBEq, reduceIte, Nat.reduceAdd, Nat.reduceLeDiff, Nat.reduceEqDiff, Nat.reduceBneDiff]) (by simp -implicitDefEqProofs only [↓v_lenS, ZZ, Nat.reduceBEq, reduceIte, Nat.reduceAdd, Nat.reduceLeDiff, Nat.reduceEqDiff, Nat.reduceBneDiff]) (fun fr => ⟨rfl, rfl⟩)) (fun e fr H h => h.1) ?_
  rintro ι2 fr2 H2 a2 w2 hf3 hn3 hd3 r3 e3 ⟨_, rfl⟩
  simp only [Exit.inBlock, bodyPostS]
  have hres : (results Tryz.f25 a2.tmps).run Tryz.prog w2 = .ok (.tuple #[]) w2 := by
    have h0 : Tryz.f25.results = #[] := by kernel_rfl
    simp [results, h0]
  exact ⟨hd3.trans hd1, _, rfl, _, hres, rfl, hu, ι2, _, r3, e1.trans e3, g7, g8, g6⟩
end Go.Lite

/-
  natural.Eval: its code by parts, what was deferred; a Lean function in its place.
-/
namespace Go.Lite
open Go Go.Proofs
noncomputable def body14 : Code := (Tryz.f12.body).getD .skip
theorem body14_eq : Tryz.f12.body = some (.seq (cdL body14) (.seq (cdL (cdR body14)) (.seq (cdL (cdR (cdR body14))) (.seq (cdL (cdR (cdR (cdR body14)))) (.seq (cdL (cdR (cdR (cdR (cdR body14))))) (.seq (cdL (cdR (cdR (cdR (cdR (cdR body14)))))) (.seq (cdL (cdR (cdR (cdR (cdR (cdR (cdR body14))))))) .ret))))))) := by rfl
def c14a : SCode := scL c12.body
def c14b : SCode := scL (scR c12.body)
def c14c : SCode := scL (scR (scR c12.body))
def c14d : SCode := scL (scR (scR (scR c12.body)))
def c14f : SCode := scL (scR (scR (scR (scR (scR c12.body)))))
def c14g : SCode := scL (scR (scR (scR (scR (scR (scR c12.body))))))
theorem slim14a : slimCode Tryz.prog 49 (cdL body14) = c14a := by kernel_rfl
theorem slim14b : slimCode Tryz.prog 49 (cdL (cdR body14)) = c14b := by kernel_rfl
theorem slim14c : slimCode Tryz.prog 49 (cdL (cdR (cdR body14))) = c14c := by kernel_rfl
theorem slim14d : slimCode Tryz.prog 49 (cdL (cdR (cdR (cdR body14)))) = c14d := by kernel_rfl
theorem slim14g : slimCode Tryz.prog 49 (cdL (cdR (cdR (cdR (cdR (cdR (cdR body14))))))) = c14g := by kernel_rfl
theorem reg14f : ∃ ops id pre phs, cdL (cdR (cdR (cdR (cdR (cdR body14))))) = .region id ops true ∧ slimDraw Tryz.prog 49 ops = some (.draw pre phs) ∧ c14f = .draw pre phs ∧ ∀ t, t = 6 ∨ t = 7 ∨ t = 8 ∨ t = 9 → ∀ o ∈ ops.toList, o.dst ≠ some t := ⟨_, _, _, _, rfl, by kernel_rfl, rfl, by
  rintro t (rfl | rfl | rfl | rfl) <;> decide⟩
theorem reg14e : ∃ o1 o2 c, cdL (cdR (cdR (cdR (cdR body14)))) = .region 7 #[o1, o2] false ∧ o1.dst = some 35 ∧ o2.dst = none ∧ o1.op = .makeFunc (.func 25) #[] #[.tmp 9, .tmp 7, .tmp 8, .tmp 6] ∧ o1.after = #[] ∧ o1.guard = none ∧ o2.guard = none ∧ o2.op = .defer c ∧ c.args = #[] ∧ c.callee = .value (.tmp 35) := ⟨_, _, _, rfl, rfl, rfl, rfl, rfl, rfl, rfl, rfl, rfl, rfl⟩
/-! ### What it comes to -/
abbrev EvR := (Int × Str × Int) × Int × Int
def resV (p : EvR) : AV := .tuple [.agg [.int .i64 p.1.1, .str p.1.2.1, .int .i64 p.1.2.2], .int .i64 p.2.1, .int .i64 p.2.2]
theorem opened_res {H G : Heap} {p : EvR} : opened H (some (.ret (resV p), G)) = some (.ret (resV p), H) := by
  simp only [opened, resV, shutV_tuple, mapHM_cons, mapHM_nil, shutA_agg, shutC_int, shutC_str, shutA_int, Option.bind_some, Option.map_some]
def EndAt (fr : Fr) (H : Heap) (p : EvR) : Prop := ∃ k6 k7 k8 k9 kw kc fu, fr 6 = .ptr (.new k6) 0 ∧ fr 7 = .ptr (.new k7) 0 ∧ fr 8 = .ptr (.new k8) 0 ∧ fr 9 = .ptr (.new k9) 0 ∧ Ended H k6 k7 k8 k9 kw kc p.2.1 p.2.2 fu ∧
  H.t.get k6 = some (.row [.int .i64 p.1.1, .str p.1.2.1, .int .i64 p.1.2.2] 0 false (some 34))
theorem EndAt.unique {fr : Fr} {H : Heap} {p q : EvR} (h : EndAt fr H p) (h' : EndAt fr H q) : p = q := by
  obtain ⟨k6, k7, k8, k9, kw, kc, fu, a6, a7, a8, a9, e, g⟩ := h
  obtain ⟨m6, m7, m8, m9, mw, mc, mu, b6, b7, b8, b9, e', g'⟩ := h'
  rw [a6] at b6; rw [a9] at b9
  simp only [AV.ptr.injEq, Blk.new.injEq, and_true] at b6 b9
  subst b6 b9
  rw [g] at g'
  simp only [Option.some.injEq, Obj.row.injEq, List.cons.injEq, AV.int.injEq, AV.str.injEq, and_true, true_and] at g'
  have h9 := e.g9.symm.trans e'.g9
  simp only [Option.some.injEq, Obj.row.injEq, List.cons.injEq, AV.ptr.injEq, Blk.new.injEq, and_true, true_and] at h9
  subst h9
  obtain ⟨wa, wb, hw⟩ := e.gw
  obtain ⟨wa', wb', hw'⟩ := e'.gw
  have h8 := hw.symm.trans hw'
  simp only [Option.some.injEq, Obj.row.injEq, List.cons.injEq, AV.ptr.injEq, Blk.new.injEq, and_true, true_and] at h8
  obtain ⟨rfl, _, _⟩ := h8
  have hc := e.gc.symm.trans e'.gc
  simp only [Option.some.injEq, Obj.row.injEq, List.cons.injEq, AV.int.injEq, and_true, true_and] at hc
  obtain ⟨⟨p1, p2, p3⟩, p4, p5⟩ := p
  obtain ⟨⟨q1, q2, q3⟩, q4, q5⟩ := q
  simp_all
noncomputable def endOf (fr : Fr) (H : Heap) : Option EvR := open Classical in if h : ∃ p, EndAt fr H p then some h.choose else none
theorem endOf_eq {fr : Fr} {H : Heap} {p : EvR} (h : EndAt fr H p) : endOf fr H = some p := by
  unfold endOf
  have h' : ∃ p, EndAt fr H p := ⟨p, h⟩
  rw [dif_pos h', h'.choose_spec.unique h]
theorem endOf_of {fr : Fr} {H : Heap} {p : EvR} (h : endOf fr H = some p) : EndAt fr H p := by
  unfold endOf at h
  split at h
  · rename_i h'
    simp only [Option.some.injEq] at h
    rw [← h]; exact h'.choose_spec
  · cases h
def noPanic : R → R
  | some (.ret v, H) => some (.ret v, H)
  | _ => none
theorem noPanic_ret {v : AV} {H : Heap} : noPanic (some (.ret v, H)) = some (.ret v, H) := rfl
theorem noPanic_of {r : R} {o : Out × Heap} (h : noPanic r = some o) : r = some o ∧ ∃ v, o.1 = .ret v := by
  unfold noPanic at h
  split at h
  · simp only [Option.some.injEq] at h; subst h; exact ⟨rfl, _, rfl⟩
  · cases h
def stepE (call : CallF) (n : Nat) (c : SCode) (K : Fr → Heap → R) (fr : Fr) (H : Heap) : R := c.run call n fr H fun e fr H => match e with
  | .normal => K fr H
  | _ => none
noncomputable def doneE (fr0 : Fr) (fr : Fr) (H : Heap) : R := open Classical in if fr 6 = fr0 6 ∧ fr 7 = fr0 7 ∧ fr 8 = fr0 8 ∧ fr 9 = fr0 9 then (endOf fr H).map fun p => (.ret (resV p), H) else none
theorem doneE_eq {fr0 fr : Fr} {H : Heap} {p : EvR} (h : EndAt fr0 H p) (h6 : fr 6 = fr0 6) (h7 : fr 7 = fr0 7) (h8 : fr 8 = fr0 8) (h9 : fr 9 = fr0 9) : doneE fr0 fr H = some (.ret (resV p), H) := by
  have h' : EndAt fr H p := by
    obtain ⟨k6, k7, k8, k9, kw, kc, fu, a6, a7, a8, a9, e⟩ := h
    exact ⟨k6, k7, k8, k9, kw, kc, fu, h6.trans a6, h7.trans a7, h8.trans a8, h9.trans a9, e⟩
  unfold doneE
  rw [if_pos ⟨h6, h7, h8, h9⟩, endOf_eq h']; rfl
noncomputable def caughtE (fr : Fr) (x : AV) (H : Heap) : R := match x with
  | .iface t (.agg [.int .i64 k, .str s, .int .i64 z]) => if t = 76 then (endOf fr H).map fun p => (.ret (resV ((k, s, z), p.2)), H) else none
  | _ => none
noncomputable def midE (call : CallF) (n : Nat) (fr0 : Fr) (H : Heap) : R := c14f.run call n fr0 H fun e fr H => match e with
  | .normal => noPanic (stepE call n c14g (doneE fr0) fr H)
  | _ => none
noncomputable def endE (fr : Fr) : R → R
  | some (.panic x, H) => caughtE fr x H
  | r => r
noncomputable def tailE (call : CallF) (n : Nat) (fr : Fr) (H : Heap) : R := endE (fr.set 35 .undef) (midE call n (fr.set 35 .undef) H)
noncomputable def runE (call : CallF) (n : Nat) (ys : List AV) (H : Heap) : R := noPanic (stepE call n c14a (stepE call n c14b (stepE call n c14c (stepE call n c14d (tailE call n)))) (initFr ys) H)
theorem stepE_sound {P : Program} {nb : NB} {ι : Emb} {H : Heap} {w : World} {nt : Nat} (hgl : P.globals.size ≤ nb.n) (hm : P.follows .mixedOrders = true) {call : CallF} (hcall : CallsOk P nb call) {n : Nat} {c : Code} {fr : Fr} {a : Act} {K : Fr → Heap → R} {v : AV} {Hx : Heap}
    (hf : FRel nb ι fr a.tmps) (hn : a.tmps.size = nt) (r : Rel nb ι H w) (h : stepE call n (slimCode P nt c) K fr H = some (.ret v, Hx))
    {Q : Exit → Act → World → Prop} (hQ : ∀ (ι' : Emb) (fr' : Fr) (H' : Heap) (a' : Act) (w' : World), FRel nb ι' fr' a'.tmps → a'.tmps.size = nt → a'.defers = a.defers → Rel nb ι' H' w' → Ext nb ι H w ι' H' w' → K fr' H' = some (.ret v, Hx) → Q .normal a' w') : c.wp P Q a w := by
  refine wp_mono (code_sound (nt := nt) hgl hm hcall c hf hn rfl r h) fun e a' w' hp => ?_
  cases e <;> simp only [CodePost] at hp
  case normal =>
    obtain ⟨ι', fr', H', g1, g2, g3, g4, g5, g6⟩ := hp
    exact hQ ι' fr' H' a' w' g1 g2 g3 g4 g5 g6
  case exit id =>
    obtain ⟨ι', fr', H', g1, g2, g3, g4, g5, g6⟩ := hp
    cases g6
  case ret =>
    obtain ⟨ι', fr', H', g1, g2, g3, g4, g5, g6⟩ := hp
    cases g6
  case panic ch =>
    obtain ⟨ι', x, v, g1, _⟩ := hp
    cases g1
theorem leave_results {nb : NB} {ι : Emb} {H : Heap} {w : World} {tmps : Array Value} {fr : Fr} (hf : ∀ t, t = 6 ∨ t = 7 ∨ t = 8 → VRel nb ι (fr t) (tmps.getD t undef)) (r : Rel nb ι H w) {k6 k7 k8 : Nat} {p : EvR} (a6 : fr 6 = .ptr (.new k6) 0) (a7 : fr 7 = .ptr (.new k7) 0) (a8 : fr 8 = .ptr (.new k8) 0)
    (g7 : H.t.get k7 = some (.row [.int .i64 p.2.1] 0 false (some 3))) (g8 : H.t.get k8 = some (.row [.int .i64 p.2.2] 0 false (some 3))) (g6 : H.t.get k6 = some (.row [.int .i64 p.1.1, .str p.1.2.1, .int .i64 p.1.2.2] 0 false (some 34))) :
    ∃ u, (results Tryz.f12 tmps).run Tryz.prog w = .ok u w ∧ VRel nb ι (resV p) u := by
  have hs : slimRes Tryz.prog Tryz.f12.results.toList = some [.celln 6 3, .cell1 7, .cell1 8] := by kernel_rfl
  have hf' : FRel nb ι (fun t => if t = 6 ∨ t = 7 ∨ t = 8 then fr t else .undef) tmps := fun t => by
    by_cases ht : t = 6 ∨ t = 7 ∨ t = 8
    · simp only [ht, if_true]; exact hf t ht
    · simp only [ht, if_false, VRel]
  have hres : resVals (fun t => if t = 6 ∨ t = 7 ∨ t = 8 then fr t else .undef) H [.celln 6 3, .cell1 7, .cell1 8] = some [.agg [.int .i64 p.1.1, .str p.1.2.1, .int .i64 p.1.2.2], .int .i64 p.2.1, .int .i64 p.2.2] := by
    simp [resVals, ResV.val, a6, a7, a8, AV.asPtr, Heap.ldn, Heap.ld1, Heap.cells, g6, g7, g8, Obj.cells]
  exact results_sound (a := { tmps := tmps, defers := [] }) r hf' hs hres
theorem tail_sound {nb : NB} (hgl : (Tryz.prog).globals.size ≤ nb.n) {call : CallF} (hcall : CallsOk Tryz.prog nb call) {n : Nat} {ι : Emb} {H : Heap} {w : World} {a : Act} {fr : Fr} {cap : Array Value} (hf : FRel nb ι fr a.tmps) (hn : a.tmps.size = 49)
    (hd : a.defers = [{ target := .fn (.func 25) cap, args := #[] }]) (hcap : VRels nb ι [fr 9, fr 7, fr 8, fr 6] cap.toList) (r : Rel nb ι H w) {v : AV} {Hx : Heap} (h : endE fr (midE call n fr H) = some (.ret v, Hx)) {R : Ending → World → Prop}
    (hR : ∀ u w' p G ι', v = resV p → VRel nb ι' v u → Rel nb ι' G w' → Ext nb ι H w ι' G w' → R (.returned u) w') :
    (Code.seq (cdL (cdR (cdR (cdR (cdR (cdR body14)))))) (.seq (cdL (cdR (cdR (cdR (cdR (cdR (cdR body14))))))) .ret)).wp Tryz.prog (bodyPostD Tryz.prog Tryz.f12 R) a w := by
  have hm : (Tryz.prog).follows .mixedOrders = true := by kernel_rfl
  have hinv : ∀ w', (invoke (.fn (.func 25) cap) #[]).run Tryz.prog w' = .ok (.enter 25 cap) w' := fun w' => by
    have h1 : (callFunc 25 cap).run Tryz.prog w' = .ok (.enter 25 cap) w' := by
      have := Tryz.func25
      have hb : Tryz.f25.body.isSome = true := by rw [body26_eq]; rfl
      have hnm : Tryz.f25.name ≠ "runtime.NumGoroutine" := by rw [show Tryz.f25.name = _ from rfl]; decide
      obtain ⟨c, hc⟩ := Option.isSome_iff_exists.1 hb
      simp [callFunc, this, hnm, hc]
    simp [invoke, h1]
  refine wp_seq ?_
  obtain ⟨ops, id, pre, phs, hreg, hsl, hc, hdst⟩ := reg14f
  rw [hreg]
  cases hmid : midE call n fr H with
  | none => rw [hmid] at h; cases h
  | some o =>
  rw [hmid] at h
  unfold midE at hmid
  rw [hc] at hmid
  refine draw_gen hgl hm hcall hsl hf hn r (K := fun e fr' H => match e with | .normal => noPanic (stepE call n c14g (doneE fr) fr' H) | _ => none) (out := o) hmid ?_ ?_
  · intro ι1 fr1 H1 a1 w1 hf1 hn1 hd1 r1 e1 g
    obtain ⟨g, v', hv'⟩ := noPanic_of g
    obtain ⟨o1, Ho⟩ := o
    simp only at hv'
    subst hv'
    simp only [endE, Option.some.injEq, Prod.mk.injEq, Out.ret.injEq] at h
    obtain ⟨rfl, rfl⟩ := h
    simp only [Exit.then]
    refine wp_seq ?_
    refine stepE_sound hgl hm hcall hf1 hn1 r1 (by rw [slim14g]; exact g) ?_
    intro ι2 fr2 H2 a2 w2 hf2 hn2 hd2 r2 e2 g
    unfold doneE at g
    split at g
    case isFalse => cases g
    rename_i heq
    obtain ⟨q6, q7, q8, q9⟩ := heq
    simp only [Option.map_eq_some_iff, Prod.mk.injEq, Out.ret.injEq] at g
    obtain ⟨p, hp, rfl, rfl⟩ := g
    obtain ⟨k6, k7, k8, k9, kw, kc, fu, b6, b7, b8, b9, ed, g6⟩ := endOf_of hp
    refine wp_ret ?_
    simp only [bodyPostD]
    rw [hd2, hd1, hd]
    have hcap2 : VRels nb ι2 [.ptr (.new k9) 0, .ptr (.new k7) 0, .ptr (.new k8) 0, .ptr (.new k6) 0] cap.toList := by
      rw [← b6, ← b7, ← b8, ← b9, q6, q7, q8, q9]
      exact VRels.mono (e1.trans e2).le _ _ hcap
    refine leaves_cons (by simp) (hinv _) ((close_idle hgl g6 ed hcap2 r2).mono ?_)
    rintro en u' w' ⟨rfl, rfl, ι3, H3, r3, e3, k7', k8', k6'⟩
    obtain ⟨u, hu, hru⟩ := leave_results (fr := fr2) (p := p) (fun t _ => VRel.mono e3.le _ _ (hf2 t)) r3 b6 b7 b8 k7' k8' k6'
    exact ⟨u, hu, hR u w' p H3 ι3 rfl hru r3 ((e1.trans e2).trans e3)⟩
  · intro u x ι1 a1 w1 ho hx r1 e1 hd1 hfr
    obtain ⟨o1, Ho⟩ := o
    simp only at ho r1 e1
    subst ho
    simp only [endE] at h
    unfold caughtE at h
    split at h
    case h_2 => cases h
    rename_i t k s z
    split at h
    case isFalse => cases h
    rename_i ht
    subst ht
    simp only [Option.map_eq_some_iff, Prod.mk.injEq, Out.ret.injEq] at h
    obtain ⟨p, hp, rfl, rfl⟩ := h
    obtain ⟨k6, k7, k8, k9, kw, kc, fu, b6, b7, b8, b9, ed, g6⟩ := endOf_of hp
    obtain ⟨y, rfl, hy⟩ := (by simpa only [VRel] using hx : ∃ y, u = .iface 76 y ∧ _)
    simp only [Exit.then, bodyPostD]
    rw [hd1, hd]
    have hcap2 : VRels nb ι1 [.ptr (.new k9) 0, .ptr (.new k7) 0, .ptr (.new k8) 0, .ptr (.new k6) 0] cap.toList := by
      rw [← b6, ← b7, ← b8, ← b9]
      exact VRels.mono e1.le _ _ hcap
    refine leaves_cons (by simp) (hinv _) ((close_caught hgl ed hcap2 r1 hx []).mono ?_)
    rintro en u' w' ⟨rfl, rfl, ι3, H3, r3, e3, k7', k8', k6'⟩
    obtain ⟨u, hu, hru⟩ := leave_results (fr := fr) (p := ((k, s, z), p.2)) (fun t ht => VRel.mono e3.le _ _ (hfr t (hdst t (by rcases ht with h | h | h <;> simp [h])))) r3 b6 b7 b8 k7' k8' k6'
    exact ⟨u, hu, hR u w' _ H3 ι3 rfl hru r3 (e1.trans e3)⟩
theorem runE_sound {nb : NB} (hgl : (Tryz.prog).globals.size ≤ nb.n) {call : CallF} (hcall : CallsOk Tryz.prog nb call) {n : Nat} {ι : Emb} {H : Heap} {w : World} {ys : List AV} {args : Array Value} (hle : ys.length ≤ 49) (hxs : VRels nb ι ys args.toList) (r : Rel nb ι H w) {v : AV} {Hx : Heap} (h : runE call n ys H = some (.ret v, Hx)) :
    Calls Tryz.prog 12 args w fun en w' => ∃ p G, v = resV p ∧ CallPost nb ι H w (.ret v, G) en w' := by
  have hm : (Tryz.prog).follows .mixedOrders = true := by kernel_rfl
  have hnt : Tryz.f12.ntmps = 49 := by kernel_rfl
  have hlen := hxs.length
  have hsz : (args ++ Array.replicate (49 - args.size) undef).size = 49 := by simp at hlen ⊢; omega
  obtain ⟨h, -⟩ := noPanic_of h
  refine calls_of_wp_defers Tryz.func12 body14_eq ?_
  rw [hnt]
  generalize hRR : (fun (en : Ending) (w' : World) => ∃ p G, v = resV p ∧ CallPost nb ι H w (.ret v, G) en w') = RR
  refine wp_seq ?_
  refine stepE_sound hgl hm hcall (frel_init hxs hle) hsz r (by rw [slim14a]; exact h) ?_
  intro ι1 fr1 H1 a1 w1 hf1 hn1 hd1 r1 e1 h
  refine wp_seq ?_
  refine stepE_sound hgl hm hcall hf1 hn1 r1 (by rw [slim14b]; exact h) ?_
  intro ι2 fr2 H2 a2 w2 hf2 hn2 hd2 r2 e2 h
  refine wp_seq ?_
  refine stepE_sound hgl hm hcall hf2 hn2 r2 (by rw [slim14c]; exact h) ?_
  intro ι3 fr3 H3 a3 w3 hf3 hn3 hd3 r3 e3 h
  refine wp_seq ?_
  refine stepE_sound hgl hm hcall hf3 hn3 r3 (by rw [slim14d]; exact h) ?_
  intro ι4 fr4 H4 a4 w4 hf4 hn4 hd4 r4 e4 h
  have hds : a4.defers = [] := by rw [hd4, hd3, hd2, hd1]
  have e04 := ((e1.trans e2).trans e3).trans e4
  clear hd1 hd2 hd3 hd4 hf1 hf2 hf3 hn1 hn2 hn3 r1 r2 r3
  refine wp_seq ?_
  obtain ⟨o1, o2, cc, hreg, g1, g2, g3, g4, g5, g6, g7, g8, g9⟩ := reg14e
  rw [hreg]
  refine wp_region ?_
  have hmf : ∀ (fn : Fn) (first cap : Array Value) (w : World), (Instr.makeFunc fn first cap).run Tryz.prog w = .ok (.func fn first cap) w := fun _ _ _ _ => rfl
  obtain ⟨d1, p1, t1, s1, f1, u1⟩ := o1
  obtain ⟨d2, p2, t2, s2, f2, u2⟩ := o2
  obtain ⟨cal, cargs, cty⟩ := cc
  simp only at g1 g2 g3 g4 g5 g6 g7 g8 g9
  subst g1 g2 g3 g4 g5 g6 g7 g8 g9
  simp [wpOps, go_sem, Act.eval, hmf, Exit.then, hn4, hds]
  left; left
  have hg : ∀ t (ht : t < a4.tmps.size), VRel nb ι4 (fr4 t) a4.tmps[t] := fun t ht => by
    have := hf4 t
    rwa [Array.getD_eq_getD_getElem?, Array.getElem?_eq_getElem ht] at this
  refine tail_sound hgl hcall (fr := fr4.set 35 .undef) (hf4.set (by omega) (by simp only [VRel])) (by simp [hn4]) rfl ?_ r4 h ?_
  · simp only [VRels]
    exact ⟨_, _, rfl, hg 9 _, _, _, rfl, hg 7 _, _, _, rfl, hg 8 _, _, _, rfl, hg 6 _, rfl⟩
  · intro u w' p G ι' hv hu hr he
    rw [← hRR]
    exact ⟨p, G, hv, ι', v, rfl, hu, hr, e04.trans he⟩
/-! ### Eval, as a Lean function -/
noncomputable def gEvalN (n : Nat) (xs : List AV) (H : Heap) : R := (mapHM shutV xs H).bind fun q => if q.1.length ≤ 49 then opened q.2 (noPanic (runE (callN P5 n) n q.1 q.2.bare)) else none
noncomputable def gEval (xs : List AV) (H : Heap) : R := open Classical in if h : ∃ o, Ev fun n => gEvalN n xs H = some o then some h.choose else none
theorem gEval_eq {xs : List AV} {H : Heap} {o : Out × Heap} (h : Ev fun n => gEvalN n xs H = some o) : gEval xs H = some o := by
  unfold gEval
  have h' : ∃ o, Ev fun n => gEvalN n xs H = some o := ⟨o, h⟩
  rw [dif_pos h']
  obtain ⟨N, hN⟩ := h'.choose_spec.and h
  have := hN N (Nat.le_refl _)
  exact this.1.symm.trans this.2
theorem gEval_of {xs : List AV} {H : Heap} {o : Out × Heap} (h : gEval xs H = some o) : ∃ n, gEvalN n xs H = some o := by
  unfold gEval at h
  split at h
  · rename_i h'
    simp only [Option.some.injEq] at h
    obtain ⟨N, hN⟩ := h'.choose_spec
    rw [← h]
    exact ⟨N, hN N (Nat.le_refl _)⟩
  · cases h
theorem gEval_ok {nb : NB} (hgl : (Tryz.prog).globals.size ≤ nb.n) (hcalls : ∀ n, CallsOk Tryz.prog nb (callN P5 n)) : OwnOk Tryz.prog nb 12 gEval := by
  intro xs args ι H w out h hxs r
  obtain ⟨n, h⟩ := gEval_of h
  unfold gEvalN at h
  simp only [Option.bind_eq_some_iff] at h
  obtain ⟨⟨ys, H1⟩, h1, h⟩ := h
  obtain ⟨ι1, r1, e1, v1, p1⟩ := mapHM_sound shutV_sound xs H ys H1 ι w _ h1 hxs r
  simp only [] at h
  split at h
  case isFalse => cases h
  rename_i hle
  refine ⟨fun w' => ?_, ?_⟩
  · have hb : Tryz.f12.body.isSome = true := by rw [body14_eq]; rfl
    have hnm : Tryz.f12.name ≠ "runtime.NumGoroutine" := by rw [show Tryz.f12.name = _ from rfl]; decide
    obtain ⟨c, hc⟩ := Option.isSome_iff_exists.1 hb
    simp [callFunc, Tryz.func12, hnm, hc]
  · cases hrun : noPanic (runE (callN P5 n) n ys H1.bare) with
    | none => rw [hrun] at h; cases h
    | some o =>
      obtain ⟨g, v, hv⟩ := noPanic_of hrun
      obtain ⟨o1, Ho⟩ := o
      simp only at hv
      subst hv
      rw [hrun] at h
      refine (runE_sound hgl (hcalls n) hle (VRels.pure ys _ p1 v1) r1.bareH g).mono fun en w' hp => ?_
      obtain ⟨p, G, rfl, hp⟩ := hp
      rw [opened_res] at h
      simp only [Option.some.injEq] at h
      subst h
      exact (hp.opened r1 opened_res).from e1
end Go.Lite

/-
  The machine's state, as the program's heap holds it: names, cells, values; what stays.
-/
namespace Go.Lite
open Go Go.Proofs
def loud : Nat → Obj → Prop := fun _ o => ∃ cs es fz ty, o = .row cs es fz ty ∧ (ty = some 110 ∨ ty = some 64)
theorem quiet {j : Nat} {cs : List AV} {es : Nat} {fz : Bool} {t : Nat} (h1 : t ≠ 110) (h2 : t ≠ 64) : ¬ loud j (.row cs es fz (some t)) := by
  rintro ⟨a, b, c, d, e, h⟩
  simp only [Obj.row.injEq] at e
  obtain ⟨_, _, _, rfl⟩ := e
  rcases h with h | h
  · exact h1 (Option.some.inj h)
  · exact h2 (Option.some.inj h)
abbrev Keep (H H' : Heap) : Prop := HKeep loud H H'
def Stay (H H' : Heap) : Prop := ∀ j cs es fz t, H.t.get j = some (.row cs es fz (some t)) → t = 80 ∨ t = 70 → H'.t.get j = some (.row cs es fz (some t))
theorem HKeep.stay {H H' : Heap} (k : Keep H H') : Stay H H' := fun j cs es fz t h ht => k.get _ _ h (quiet (by omega) (by omega))
theorem Stay.refl {H : Heap} : Stay H H := fun _ _ _ _ _ h _ => h
theorem Stay.trans {A B C : Heap} (h : Stay A B) (k : Stay B C) : Stay A C := fun j cs es fz t g ht => k j cs es fz t (h j cs es fz t g ht) ht
theorem Stay.push {H : Heap} {ob : Obj} (low : HLow H) : Stay H (H.push ob) := (HKeep.push (X := loud) low).stay
theorem Stay.put {H : Heap} {k : Nat} {cs : List AV} {es : Nat} {fz : Bool} {t : Nat} {ob : Obj} (hk : H.t.get k = some (.row cs es fz (some t))) (h1 : t ≠ 80) (h2 : t ≠ 70) (h3 : t ≠ 69) : Stay H (H.put k ob) := fun j cs' es' fz' t' g ht => by
  rw [h_gput, if_neg]
  · exact g
  · rintro rfl
    rw [hk] at g
    simp only [Option.some.injEq, Obj.row.injEq] at g
    obtain ⟨_, _, _, rfl⟩ := g
    omega
def PC (bs : List Nat) (i : Nat) (c : AV) : Prop := ∃ b, bs[i]? = some b ∧ c = .ptr (.new b) 0
theorem PC.more {bs x : List Nat} {i : Nat} {c : AV} (h : PC bs i c) : PC (bs ++ x) i c := by
  obtain ⟨b, h1, h2⟩ := h
  refine ⟨b, ?_, h2⟩
  rw [List.getElem?_append_left (List.getElem?_eq_some_iff.1 h1).1]; exact h1
theorem PC.new {bs : List Nat} {b : Nat} : PC (bs ++ [b]) bs.length (.ptr (.new b) 0) := ⟨b, by simp, rfl⟩
def PCs (bs : List Nat) : List Nat → List AV → Prop
  | [], [] => True
  | i :: g, c :: cs => PC bs i c ∧ PCs bs g cs
  | _, _ => False
theorem PCs.more {bs x : List Nat} : ∀ {g : List Nat} {cs : List AV}, PCs bs g cs → PCs (bs ++ x) g cs
  | [], [], _ => trivial
  | i :: g, c :: cs, h => ⟨h.1.more, h.2.more⟩
  | [], _ :: _, h => h.elim
  | _ :: _, [], h => h.elim
theorem PCs.len {bs : List Nat} : ∀ {g : List Nat} {cs : List AV}, PCs bs g cs → cs.length = g.length
  | [], [], _ => rfl
  | i :: g, c :: cs, h => by simp [h.2.len]
  | [], _ :: _, h => h.elim
  | _ :: _, [], h => h.elim
theorem PCs.append {bs : List Nat} : ∀ {g g' : List Nat} {cs cs' : List AV}, PCs bs g cs → PCs bs g' cs' → PCs bs (g ++ g') (cs ++ cs')
  | [], _, [], _, _, h' => h'
  | i :: g, _, c :: cs, _, h, h' => ⟨h.1, h.2.append h'⟩
  | [], _, _ :: _, _, h, _ => h.elim
  | _ :: _, _, [], _, h, _ => h.elim
theorem PCs.take {bs : List Nat} : ∀ {g : List Nat} {cs : List AV} (n : Nat), PCs bs g cs → PCs bs (g.take n) (cs.take n)
  | _, _, 0, _ => by simp [PCs]
  | [], [], n + 1, h => by simp [PCs]
  | i :: g, c :: cs, n + 1, h => ⟨h.1, h.2.take n⟩
  | [], _ :: _, _ + 1, h => h.elim
  | _ :: _, [], _ + 1, h => h.elim
theorem PCs.drop {bs : List Nat} : ∀ {g : List Nat} {cs : List AV} (n : Nat), PCs bs g cs → PCs bs (g.drop n) (cs.drop n)
  | _, _, 0, h => by simpa using h
  | [], [], n + 1, h => by simp [PCs]
  | i :: g, c :: cs, n + 1, h => by simpa using h.2.drop n
  | [], _ :: _, _ + 1, h => h.elim
  | _ :: _, [], _ + 1, h => h.elim
theorem PCs.get {bs : List Nat} : ∀ {g : List Nat} {cs : List AV} {j i : Nat}, PCs bs g cs → g[j]? = some i → ∃ c, cs[j]? = some c ∧ PC bs i c
  | [], [], j, i, _, h => by simp at h
  | a :: g, c :: cs, 0, i, h, e => by simp at e; subst e; exact ⟨c, rfl, h.1⟩
  | a :: g, c :: cs, j + 1, i, h, e => by simpa using h.2.get (by simpa using e)
  | [], _ :: _, _, _, h, _ => h.elim
  | _ :: _, [], _, _, h, _ => h.elim
theorem PCs.flat {bs : List Nat} : ∀ {g : List Nat} {cs : List AV}, PCs bs g cs → cs.all AV.flat = true
  | [], [], _ => rfl
  | i :: g, c :: cs, h => by
    obtain ⟨b, _, rfl⟩ := h.1
    simp [AV.flat, h.2.flat]
  | [], _ :: _, h => h.elim
  | _ :: _, [], h => h.elim
inductive EnvR (H : Heap) (bs : List Nat) : Env → AV → Prop
  | nil : EnvR H bs [] .nilp
  | cons {n : Str} {i : Nat} {env : Env} {j : Nat} {c v : AV} (hj : H.t.get j = some (.row [.str n, c, v] 0 false (some 80))) (hc : PC bs i c) (hv : EnvR H bs env v) : EnvR H bs ((n, i) :: env) (.ptr (.new j) 0)
theorem EnvR.keep {H H' : Heap} {bs x : List Nat} {env : Env} {v : AV} (h : EnvR H bs env v) (k : Stay H H') : EnvR H' (bs ++ x) env v := by
  induction h with
  | nil => exact .nil
  | cons hj hc hv ih => exact .cons (k _ _ _ _ _ hj (by decide)) hc.more ih
theorem EnvR.flat {H : Heap} {bs : List Nat} {env : Env} {v : AV} (h : EnvR H bs env v) : v.flat = true := by cases h <;> rfl
def LisR (H : Heap) (bs : List Nat) (l : List Nat) (v : AV) : Prop :=
  (l = [] ∧ (v = .nils ∨ v = .emp)) ∨ ∃ k o cells, l ≠ [] ∧ v = .slice (.new k) o l.length (.gro 1) ∧ H.t.get k = some (.row cells 1 false (some 70)) ∧ PCs bs l ((cells.drop o).take l.length)
theorem LisR.keep {H H' : Heap} {bs x : List Nat} {l : List Nat} {v : AV} (h : LisR H bs l v) (k : Stay H H') : LisR H' (bs ++ x) l v := by
  rcases h with h | ⟨j, o, cells, h1, h2, h3, h4⟩
  · exact .inl h
  · exact .inr ⟨j, o, cells, h1, h2, k _ _ _ _ _ h3 (by decide), h4.more⟩
theorem LisR.flat {H : Heap} {bs : List Nat} {l : List Nat} {v : AV} (h : LisR H bs l v) : v.flat = true := by
  rcases h with ⟨_, rfl | rfl⟩ | ⟨_, _, _, _, rfl, _⟩ <;> rfl
theorem LisR.len {H : Heap} {bs : List Nat} {l : List Nat} {v : AV} (h : LisR H bs l v) : lenM v = some (.int .i64 l.length) := by
  rcases h with ⟨rfl, rfl | rfl⟩ | ⟨_, _, _, _, rfl, _⟩ <;> rfl
theorem LisR.taken {H : Heap} {bs : List Nat} {l : List Nat} {v : AV} (h : LisR H bs l v) : ∃ cs, Lite.taken 1 H v = some (l.length, cs) ∧ PCs bs l cs := by
  rcases h with ⟨rfl, rfl | rfl⟩ | ⟨k, o, cells, h1, rfl, h2, h3⟩
  · exact ⟨[], rfl, trivial⟩
  · exact ⟨[], rfl, trivial⟩
  · refine ⟨_, ?_, h3⟩
    simp only [k_taken, h_ldn, h_cells, h2, k_cells, k_ldn, Nat.mul_one]
    rw [if_pos h3.len]; rfl
def numOk (k : Int) (t : Str) : Prop := (t.length ≤ 1000 ∧ ∀ c ∈ t, c < 256) ∧ (k = 1 → ∃ z : Int, z.natAbs < 10 ^ 200 ∧ t = decZ z)
mutual
def X.tame : X → Prop
  | .mk k t ns a => numOk k t ∧ ns.length ≤ 1000 ∧ a.length ≤ 1000 ∧ X.tames a
def X.tames : List X → Prop
  | [] => True
  | x :: xs => x.tame ∧ X.tames xs
end
theorem X.tames_iff : ∀ (l : List X), X.tames l ↔ ∀ x ∈ l, x.tame
  | [] => by simp [X.tames]
  | x :: l => by simp [X.tames, X.tames_iff l]
def ValR (H : Heap) (bs : List Nat) : V → List AV → Prop
  | .atom k t, cs => ∃ c2 c3 c4 c5 c6 c7 c8 c9, cs = [.int .i64 k, .str t, c2, c3, c4, c5, c6, c7, c8, c9] ∧ 1 ≤ k ∧ k ≤ 4 ∧ numOk k t ∧ (c2.flat = true ∧ c3.flat = true ∧ c4.flat = true ∧ c5.flat = true) ∧ (c6.flat = true ∧ c7.flat = true ∧ c8.flat = true ∧ c9.flat = true)
  | .pair p q, cs => ∃ c2 c3, cs = [.int .i64 5, .str [], c2, c3, .int .i64 0, .str [], .nils, .nils, .nilp, .nils] ∧ PC bs p c2 ∧ PC bs q c3
  | .fn (.mk k t ns a) env g, cs => ∃ c8 c9, cs = [.int .i64 6, .str [], .nilp, .nilp, .int .i64 k, .str t, vStrs ns, vXs a, c8, c9] ∧ (X.mk k t ns a).tame ∧ EnvR H bs env c8 ∧ LisR H bs g c9 ∧ g.length ≤ ns.length
theorem ValR.keep {H H' : Heap} {bs x : List Nat} {v : V} {cs : List AV} (h : ValR H bs v cs) (k : Stay H H') : ValR H' (bs ++ x) v cs := by
  cases v with
  | atom k t => exact h
  | pair p q =>
    obtain ⟨c2, c3, h1, h2, h3⟩ := h
    exact ⟨c2, c3, h1, h2.more, h3.more⟩
  | fn e env g =>
    cases e
    obtain ⟨c8, c9, h1, h0, h2, h3, h4⟩ := h
    exact ⟨c8, c9, h1, h0, h2.keep k, h3.keep k, h4⟩
theorem ValR.ten {H : Heap} {bs : List Nat} {v : V} {cs : List AV} (h : ValR H bs v cs) : ∃ t c2 c3 c4 c5 c6 c7 c8 c9, cs = [.int .i64 v.kind, .str t, c2, c3, c4, c5, c6, c7, c8, c9] ∧ (v.kind < 5 → t = v.text) ∧ 1 ≤ v.kind ∧ v.kind ≤ 6 ∧ (c2.flat = true ∧ c3.flat = true ∧ c4.flat = true ∧ c5.flat = true) ∧ (c6.flat = true ∧ c7.flat = true ∧ c8.flat = true ∧ c9.flat = true) := by
  cases v with
  | atom k t =>
    obtain ⟨c2, c3, c4, c5, c6, c7, c8, c9, rfl, h1, h2, h3, h4, h5⟩ := h
    exact ⟨t, c2, c3, c4, c5, c6, c7, c8, c9, rfl, fun _ => rfl, h1, by simp only [V.kind]; omega, h4, h5⟩
  | pair p q =>
    obtain ⟨c2, c3, rfl, ⟨b, _, rfl⟩, ⟨b', _, rfl⟩⟩ := h
    exact ⟨[], _, _, _, _, _, _, _, _, rfl, fun _ => rfl, by simp [V.kind], by simp [V.kind], ⟨rfl, rfl, rfl, rfl⟩, ⟨rfl, rfl, rfl, rfl⟩⟩
  | fn e env g =>
    cases e
    obtain ⟨c8, c9, rfl, h0, h2, h3, h4⟩ := h
    exact ⟨[], _, _, _, _, _, _, _, _, rfl, fun _ => rfl, by simp [V.kind], by simp [V.kind], ⟨rfl, rfl, rfl, rfl⟩, ⟨fl_vStrs, fl_vXs, h2.flat, h3.flat⟩⟩
def CellR (H : Heap) (bs : List Nat) : C → List AV → Prop
  | .wait (.mk k t ns a) env, cs => ∃ ev, cs = [.int .i64 0, .str [], .nilp, .nilp, .int .i64 0, .str [], .nils, .nils, .nilp, .nils, .int .i64 k, .str t, vStrs ns, vXs a, ev, .bool false, .bool false] ∧ (X.mk k t ns a).tame ∧ EnvR H bs env ev
  | .busy (.mk k t ns a) env, cs => ∃ ev, cs = [.int .i64 0, .str [], .nilp, .nilp, .int .i64 0, .str [], .nils, .nils, .nilp, .nils, .int .i64 k, .str t, vStrs ns, vXs a, ev, .bool false, .bool true] ∧ (X.mk k t ns a).tame ∧ EnvR H bs env ev
  | .done v, cs => ∃ vs d0 d1 d2 d3 d4 b, cs = vs ++ [d0, d1, d2, d3, d4, .bool true, b] ∧ ValR H bs v vs
theorem CellR.keep {H H' : Heap} {bs x : List Nat} {c : C} {cs : List AV} (h : CellR H bs c cs) (k : Stay H H') : CellR H' (bs ++ x) c cs := by
  cases c with
  | wait e env =>
    cases e
    obtain ⟨ev, h1, h0, h2⟩ := h
    exact ⟨ev, h1, h0, h2.keep k⟩
  | busy e env =>
    cases e
    obtain ⟨ev, h1, h0, h2⟩ := h
    exact ⟨ev, h1, h0, h2.keep k⟩
  | done v =>
    obtain ⟨vs, d0, d1, d2, d3, d4, b, h1, h2⟩ := h
    exact ⟨vs, d0, d1, d2, d3, d4, b, h1, h2.keep k⟩
theorem CellR.len {H : Heap} {bs : List Nat} {c : C} {cs : List AV} (h : CellR H bs c cs) : cs.length = 17 := by
  cases c with
  | wait e env => cases e; obtain ⟨ev, rfl, h0, h2⟩ := h; rfl
  | busy e env => cases e; obtain ⟨ev, rfl, h0, h2⟩ := h; rfl
  | done v =>
    obtain ⟨vs, d0, d1, d2, d3, d4, b, rfl, h2⟩ := h
    obtain ⟨t, c2, c3, c4, c5, c6, c7, c8, c9, rfl, _⟩ := h2.ten
    rfl
structure St (F kw kc : Nat) (H : Heap) (bs : List Nat) (s : S) (d : Nat) : Prop where
  low : HLow H
  w : ∃ wa wb, H.t.get kw = some (.row [.ptr (.new kc) 0, wa, wb] 0 false (some 69))
  c : H.t.get kc = some (.row [.int .i64 s.steps, .int .i64 s.uses, .int .i64 F] 0 false (some 64))
  nodup : bs.Nodup
  len : bs.length = s.cells.length
  cells : ∀ (i b : Nat) (c : C), bs[i]? = some b → s.cells[i]? = some c → ∃ cs, H.t.get b = some (.row cs 0 false (some 110)) ∧ CellR H bs c cs
  steps : s.steps ≤ F
  uses : s.uses ≤ s.steps + d
  small : F ≤ 1099511627776
theorem St.at {F kw kc : Nat} {H : Heap} {bs : List Nat} {s : S} {d i b : Nat} (h : St F kw kc H bs s d) (hb : bs[i]? = some b) : ∃ c cs, s.cells[i]? = some c ∧ H.t.get b = some (.row cs 0 false (some 110)) ∧ CellR H bs c cs := by
  have hi : i < s.cells.length := by rw [← h.len]; exact (List.getElem?_eq_some_iff.1 hb).1
  obtain ⟨cs, h1, h2⟩ := h.cells i b _ hb (List.getElem?_eq_getElem hi)
  exact ⟨_, cs, List.getElem?_eq_getElem hi, h1, h2⟩
theorem St.block {F kw kc : Nat} {H : Heap} {bs : List Nat} {s : S} {d b : Nat} (h : St F kw kc H bs s d) (hb : b ∈ bs) : ∃ cs, H.t.get b = some (.row cs 0 false (some 110)) := by
  obtain ⟨i, hi⟩ := List.mem_iff_getElem?.1 hb
  obtain ⟨c, cs, _, h1, _⟩ := h.at hi
  exact ⟨cs, h1⟩
theorem St.keep {F kw kc : Nat} {H H' : Heap} {bs : List Nat} {s : S} {d : Nat} (h : St F kw kc H bs s d) (low : HLow H') (k : Stay H H') (hc : ∀ j cs t, H.t.get j = some (.row cs 0 false (some t)) → t = 110 ∨ t = 64 ∨ t = 69 → H'.t.get j = some (.row cs 0 false (some t))) : St F kw kc H' bs s d where
  low := low
  w := by
    obtain ⟨wa, wb, hw⟩ := h.w
    exact ⟨wa, wb, hc _ _ _ hw (.inr (.inr rfl))⟩
  c := hc _ _ _ h.c (.inr (.inl rfl))
  nodup := h.nodup
  len := h.len
  cells i b c hb hs := by
    obtain ⟨cs, h1, h2⟩ := h.cells i b c hb hs
    exact ⟨cs, hc _ _ _ h1 (.inl rfl), by simpa using h2.keep (x := []) k⟩
  steps := h.steps
  uses := h.uses
  small := h.small
theorem St.push {F kw kc : Nat} {H : Heap} {bs : List Nat} {s : S} {d : Nat} {ob : Obj} (h : St F kw kc H bs s d) : St F kw kc (H.push ob) bs s d :=
  h.keep h.low.push (Stay.push h.low) fun j cs t hj _ => by
    rw [h_get, if_neg (by have := h.low.lt hj; omega)]; exact hj
theorem St.box {F kw kc : Nat} {H : Heap} {bs : List Nat} {s : S} {d k t : Nat} {cs : List AV} {es : Nat} {fz : Bool} {ob : Obj} (h : St F kw kc H bs s d) (hk : H.t.get k = some (.row cs es fz (some t))) (ht : t = 28 ∨ t = 75 ∨ t = 162) : St F kw kc (H.put k ob) bs s d :=
  h.keep (h.low.put (h.low.lt hk)) (Stay.put hk (by omega) (by omega) (by omega)) fun j cs' t' hj ht' => by
    rw [h_gput, if_neg]
    · exact hj
    · rintro rfl
      rw [hk] at hj
      simp only [Option.some.injEq, Obj.row.injEq] at hj
      obtain ⟨_, _, _, rfl⟩ := hj
      omega
theorem St.weak {F kw kc : Nat} {H : Heap} {bs : List Nat} {s : S} {d d' : Nat} (h : St F kw kc H bs s d) (hd : d ≤ d') : St F kw kc H bs s d' := { h with uses := by have := h.uses; omega }
theorem St.new {F kw kc : Nat} {H : Heap} {bs : List Nat} {s : S} {d : Nat} {c : C} {cs : List AV} (h : St F kw kc H bs s d) (hc : CellR H bs c cs) : St F kw kc (H.push (.row cs 0 false (some 110))) (bs ++ [H.n]) (s.new c).2 d where
  low := h.low.push
  w := by
    obtain ⟨wa, wb, hw⟩ := h.w
    exact ⟨wa, wb, (HKeep.push (X := loud) h.low).get _ _ hw (quiet (by decide) (by decide))⟩
  c := by rw [h_get, if_neg (by have := h.low.lt h.c; omega)]; exact h.c
  nodup := by
    rw [List.nodup_append]
    refine ⟨h.nodup, by simp, ?_⟩
    intro a ha b hb e
    simp only [List.mem_singleton] at hb
    obtain ⟨cs', h1⟩ := h.block ha
    have := h.low.lt h1
    omega
  len := by simp [S.new, h.len]
  cells i b c' hb hs := by
    have k : Keep H (H.push (.row cs 0 false (some 110))) := HKeep.push h.low
    simp only [S.new] at hs
    by_cases hi : i < s.cells.length
    · rw [List.getElem?_append_left (by rw [h.len]; exact hi)] at hb
      rw [List.getElem?_append_left hi] at hs
      obtain ⟨cs', h1, h2⟩ := h.cells i b c' hb hs
      exact ⟨cs', by rw [h_get, if_neg (by have := h.low.lt h1; omega)]; exact h1, h2.keep k.stay⟩
    · have hi' : i = s.cells.length := by
        have := (List.getElem?_eq_some_iff.1 hs).1
        simp at this; omega
      subst hi'
      rw [← h.len] at hb
      simp at hb hs
      subst hb hs
      exact ⟨cs, by rw [h_get, if_pos rfl], hc.keep k.stay⟩
  steps := h.steps
  uses := h.uses
  small := h.small
theorem Keep.cell {H : Heap} {b : Nat} {cs : List AV} {ob : Obj} {t : Nat} (hb : H.t.get b = some (.row cs 0 false (some t))) (ht : t = 110 ∨ t = 64) (low : HLow H) : Keep H (H.put b ob) :=
  ⟨Nat.le_refl _, fun j o hj hx => by
    rw [h_gput, if_neg]
    · exact hj
    · rintro rfl
      rw [hb] at hj
      simp only [Option.some.injEq] at hj
      subst hj
      exact hx ⟨_, _, _, _, rfl, by rcases ht with rfl | rfl <;> simp⟩, fun h => h.put (low.lt hb)⟩
theorem St.sets {F kw kc : Nat} {H H' : Heap} {bs : List Nat} {s : S} {d i b : Nat} {c : C} {cs : List AV} (h : St F kw kc H bs s d) (hb : bs[i]? = some b) (low : HLow H') (k : Stay H H')
    (hc : ∀ j cs t, H.t.get j = some (.row cs 0 false (some t)) → t = 110 ∨ t = 64 ∨ t = 69 → j ≠ b → H'.t.get j = some (.row cs 0 false (some t))) (hb' : H'.t.get b = some (.row cs 0 false (some 110))) (hcell : CellR H' bs c cs) : St F kw kc H' bs (s.set i c) d := by
  obtain ⟨c0, cs0, h0, g0, _⟩ := h.at hb
  refine ⟨low, ?_, ?_, h.nodup, by simp [S.set, h.len], ?_, h.steps, h.uses, h.small⟩
  · obtain ⟨wa, wb, hw⟩ := h.w
    refine ⟨wa, wb, hc _ _ _ hw (.inr (.inr rfl)) ?_⟩
    rintro rfl
    rw [hw] at g0
    simp at g0
  · refine hc _ _ _ h.c (.inr (.inl rfl)) ?_
    rintro rfl
    rw [h.c] at g0
    simp at g0
  · intro j b' c' hb2 hs
    simp only [S.set] at hs
    rw [List.getElem?_set] at hs
    by_cases hij : i = j
    · subst hij
      rw [hb] at hb2
      simp only [Option.some.injEq] at hb2
      subst hb2
      have hl : i < s.cells.length := (List.getElem?_eq_some_iff.1 h0).1
      rw [if_pos rfl, if_pos hl] at hs
      simp only [Option.some.injEq] at hs
      subst hs
      exact ⟨cs, hb', hcell⟩
    · rw [if_neg hij] at hs
      obtain ⟨cs', h1, h2⟩ := h.cells j b' c' hb2 hs
      have hne : b' ≠ b := by
        rintro rfl
        exact hij (((List.getElem?_inj (List.getElem?_eq_some_iff.1 hb).1 h.nodup).1 (hb.trans hb2.symm)))
      exact ⟨cs', hc _ _ _ h1 (.inl rfl) hne, by simpa using h2.keep (x := []) k⟩
theorem St.set {F kw kc : Nat} {H : Heap} {bs : List Nat} {s : S} {d i b : Nat} {c : C} {cs : List AV} (h : St F kw kc H bs s d) (hb : bs[i]? = some b) (hc : CellR H bs c cs) : St F kw kc (H.put b (.row cs 0 false (some 110))) bs (s.set i c) d := by
  obtain ⟨c0, cs0, h0, g0, _⟩ := h.at hb
  have k : Stay H (H.put b (.row cs 0 false (some 110))) := Stay.put g0 (by decide) (by decide) (by decide)
  refine h.sets hb (h.low.put (h.low.lt g0)) k (fun j cs t hj _ hne => by rw [h_gput, if_neg hne]; exact hj) (by rw [h_gput, if_pos rfl]) (by simpa using hc.keep (x := []) k)
theorem list17 {cs : List AV} (h : cs.length = 17) : ∃ a0 a1 a2 a3 a4 a5 a6 a7 a8 a9 a10 a11 a12 a13 a14 a15 a16, cs = [a0, a1, a2, a3, a4, a5, a6, a7, a8, a9, a10, a11, a12, a13, a14, a15, a16] := by
  match cs, h with
  | [a0, a1, a2, a3, a4, a5, a6, a7, a8, a9, a10, a11, a12, a13, a14, a15, a16], _ => exact ⟨a0, a1, a2, a3, a4, a5, a6, a7, a8, a9, a10, a11, a12, a13, a14, a15, a16, rfl⟩
theorem apart_ty {H : Heap} {j k : Nat} {cs cs' : List AV} {es es' : Nat} {fz fz' : Bool} {t t' : Nat} (h : H.t.get j = some (.row cs es fz (some t))) (h' : H.t.get k = some (.row cs' es' fz' (some t'))) (ht : t ≠ t') : j ≠ k := by
  rintro rfl
  rw [h] at h'
  simp only [Option.some.injEq, Obj.row.injEq] at h'
  exact ht h'.2.2.2
theorem St.count {F kw kc : Nat} {H : Heap} {bs : List Nat} {s : S} {d d' st us : Nat} (h : St F kw kc H bs s d) (h1 : st ≤ F) (h2 : us ≤ st + d') : St F kw kc (H.put kc (.row [.int .i64 st, .int .i64 us, .int .i64 F] 0 false (some 64))) bs { s with steps := st, uses := us } d' := by
  have k : Keep H (H.put kc (.row [.int .i64 st, .int .i64 us, .int .i64 F] 0 false (some 64))) := Keep.cell h.c (.inr rfl) h.low
  refine ⟨h.low.put (h.low.lt h.c), ?_, by rw [h_gput, if_pos rfl], h.nodup, h.len, ?_, h1, h2, h.small⟩
  · obtain ⟨wa, wb, hw⟩ := h.w
    exact ⟨wa, wb, k.get _ _ hw (quiet (by decide) (by decide))⟩
  · intro j b' c' hb' hs
    obtain ⟨cs', h1, h2⟩ := h.cells j b' c' hb' hs
    refine ⟨cs', ?_, by simpa using h2.keep (x := []) k.stay⟩
    rw [h_gput, if_neg]
    · exact h1
    · rintro rfl
      rw [h.c] at h1
      simp at h1
def EndS (F kc : Nat) (H : Heap) (s : S) : Prop := HLow H ∧ H.t.get kc = some (.row [.int .i64 s.steps, .int .i64 s.uses, .int .i64 F] 0 false (some 64))
theorem St.ends {F kw kc : Nat} {H : Heap} {bs : List Nat} {s : S} {d : Nat} (h : St F kw kc H bs s d) : EndS F kc H s := ⟨h.low, h.c⟩
def stopV (k : Int) (t : Str) : AV := .iface 76 (.agg [.int .i64 k, .str t, .int .i64 0])
def GiveV (F kw kc : Nat) (H : Heap) (bs : List Nat) (r : R) : O V → Prop
  | .val v s => ∃ cs H' x, r = some (.ret (.agg cs), H') ∧ ValR H' (bs ++ x) v cs ∧ St F kw kc H' (bs ++ x) s 0 ∧ Keep H H'
  | .stop k t s => ∃ H', r = some (.panic (stopV k t), H') ∧ EndS F kc H' s ∧ Keep H H'
def EvalOk (F m : Nat) : Prop := ∀ e env s o, e.tame → evalA F m e env s = some o → Ev fun n => ∀ kw kc H bs ev, St F kw kc H bs s 1 → EnvR H bs env ev → GiveV F kw kc H bs (callN P5 n 27 [.ptr (.new kw) 0, e.v, ev] H) o
def ForceOk (F m : Nat) : Prop := ∀ c s o, forceA F m c s = some o → Ev fun n => ∀ kw kc H bs cv, St F kw kc H bs s 0 → PC bs c cv → GiveV F kw kc H bs (callN P5 n 46 [.ptr (.new kw) 0, cv] H) o
def ApplyOk (F m : Nat) : Prop := ∀ v l s o, applyA F m v l s = some o → Ev fun n => ∀ kw kc H bs cs lv, St F kw kc H bs s 0 → ValR H bs v cs → LisR H bs l lv → GiveV F kw kc H bs (callN P5 n 50 [.ptr (.new kw) 0, .agg cs, lv] H) o
end Go.Lite

/-
  The machine's small functions: stop, is, constant, done, step, find, argument.
-/
namespace Go.Lite
open Go Go.Proofs
theorem stop61 : Ev fun n => ∀ (k : Int) (t : Str) H, callN P5 n 77 [.int .i64 k, .str t] H = some (.panic (stopV k t), H) := by
  refine Ev.succ ((Ev.ge 3).mono fun n hn k t H => ?_)
  rw [callN]
  simp only [show P5.own 77 = none from rfl, show P5.code 77 = some c77 from code77 _ _, show P5.mode 77 = 2 from rfl]
  simp -implicitDefEqProofs only [c77, ↓v_lenS, ZZ, Nat.reduceBEq, reduceIte, Nat.reduceAdd, Nat.reduceLeDiff, Nat.reduceEqDiff, Nat.reduceBneDiff, CL, opened, shutV, stepP, stopV, show Nat.ble 2 8 = true from rfl]
def E0 : AV := .lst 0 0 true []
def truthCs (b : Bool) : List AV := [.int .i64 2, .str (if b then trueT else falseT), .nilp, .nilp, .int .i64 0, .str [], E0, E0, .nilp, E0]
def constCs (k : Int) (t : Str) : List AV := [.int .i64 (constV k t).kind, .str (constV k t).text, .nilp, .nilp, .int .i64 0, .str [], E0, E0, .nilp, E0]
theorem shutC_nilp {d : Nat} {H : Heap} : shutC d .nilp H = some (.nilp, H) := by cases d <;> rfl
theorem is63 : Ev fun n => ∀ (b : Bool) H, callN P5 n 79 [.bool b] H = some (.ret (.agg (truthCs b)), H) := by
  refine Ev.succ ((Ev.ge 3).mono fun n hn b H => ?_)
  rw [callN]
  simp only [show P5.own 79 = none from rfl, show P5.code 79 = some c79 from code79 _ _, show P5.mode 79 = 2 from rfl]
  cases b <;> simp -implicitDefEqProofs only [c79, ↓v_lenS, ZZ, Nat.reduceBEq, reduceIte, Nat.reduceAdd, Nat.reduceLeDiff, Nat.reduceEqDiff, Nat.reduceBneDiff, CL, opened, shutC_nilp, truthCs, trueT, falseT, E0, show Nat.ble 1 6 = true from rfl, Bool.false_eq_true]
theorem const46 : Ev fun n => ∀ (k : Int) (t : Str) (ns : List Str) (a : List X) H, callN P5 n 53 [.agg [.int .i64 k, .str t, vStrs ns, vXs a]] H = some (.ret (.agg (constCs k t)), H) := by
  refine Ev.succ ((Ev.ge 3).mono fun n hn k t ns a H => ?_)
  rw [callN]
  simp only [show P5.own 53 = none from rfl, show P5.code 53 = some c53 from code53 _ _, show P5.mode 53 = 2 from rfl]
  by_cases h1 : k = 1
  · subst h1
    simp -implicitDefEqProofs only [c53, ↓v_lenS, ZZ, Nat.reduceBEq, reduceIte, Nat.reduceAdd, Nat.reduceLeDiff, Nat.reduceEqDiff, Nat.reduceBneDiff, CL, XS, opened, shutC_nilp, constCs, constV, V.kind, V.text, E0, show Nat.ble 1 21 = true from rfl]
  by_cases h2 : k = 2
  · subst h2
    simp -implicitDefEqProofs only [c53, ↓v_lenS, ZZ, Nat.reduceBEq, reduceIte, Nat.reduceAdd, Nat.reduceLeDiff, Nat.reduceEqDiff, Nat.reduceBneDiff, CL, XS, opened, shutC_nilp, constCs, constV, V.kind, V.text, E0, show Nat.ble 1 21 = true from rfl, Int.reduceBEq, Int.reduceEq]
  by_cases h4 : k = 4
  · subst h4
    simp -implicitDefEqProofs only [c53, ↓v_lenS, ZZ, Nat.reduceBEq, reduceIte, Nat.reduceAdd, Nat.reduceLeDiff, Nat.reduceEqDiff, Nat.reduceBneDiff, CL, XS, opened, shutC_nilp, constCs, constV, V.kind, V.text, E0, show Nat.ble 1 21 = true from rfl, Int.reduceBEq, Int.reduceEq]
  have b1 : (k == 1) = false := by simpa using h1
  have b2 : (k == 2) = false := by simpa using h2
  have b4 : (k == 4) = false := by simpa using h4
  simp -implicitDefEqProofs only [c53, ↓v_lenS, ZZ, Nat.reduceBEq, reduceIte, Nat.reduceAdd, Nat.reduceLeDiff, Nat.reduceEqDiff, Nat.reduceBneDiff, CL, XS, opened, shutC_nilp, constCs, constV, V.kind, V.text, E0, show Nat.ble 1 21 = true from rfl, b1, b2, b4, if_neg h1, if_neg h2, if_neg h4, emptyT]
theorem truth_val {H : Heap} {bs : List Nat} (b : Bool) : ValR H bs (truthV b) (truthCs b) :=
  ⟨_, _, _, _, _, _, _, _, rfl, by decide, by decide, ⟨by cases b <;> decide, fun h => by cases h⟩, ⟨rfl, rfl, rfl, rfl⟩, ⟨rfl, rfl, rfl, rfl⟩⟩
theorem const_val {H : Heap} {bs : List Nat} {k : Int} {t : Str} (h : numOk k t) : ValR H bs (constV k t) (constCs k t) := by
  unfold constCs constV
  by_cases h1 : k = 1
  · subst h1; exact ⟨_, _, _, _, _, _, _, _, rfl, by decide, by decide, h, ⟨rfl, rfl, rfl, rfl⟩, ⟨rfl, rfl, rfl, rfl⟩⟩
  by_cases h2 : k = 2
  · subst h2; exact ⟨_, _, _, _, _, _, _, _, rfl, by decide, by decide, h, ⟨rfl, rfl, rfl, rfl⟩, ⟨rfl, rfl, rfl, rfl⟩⟩
  by_cases h4 : k = 4
  · subst h4; exact ⟨_, _, _, _, _, _, _, _, rfl, by decide, by decide, h, ⟨rfl, rfl, rfl, rfl⟩, ⟨rfl, rfl, rfl, rfl⟩⟩
  simp only [if_neg h1, if_neg h2, if_neg h4]
  exact ⟨_, _, _, _, _, _, _, _, rfl, by decide, by decide, ⟨by decide, fun h => by cases h⟩, ⟨rfl, rfl, rfl, rfl⟩, ⟨rfl, rfl, rfl, rfl⟩⟩
theorem wrap_nat64 {n : Nat} (h : n ≤ 1099511627777) : IntKind.i64.wrap ((n : Int) + 1) = ((n + 1 : Nat) : Int) := by
  have := wrap64 (x := (n : Int) + 1) (by omega) (by omega)
  rw [this]; rfl
theorem step40 {F : Nat} : Ev fun n => ∀ (kc st us : Nat) H, st ≤ F → F ≤ 1099511627776 → H.t.get kc = some (.row [.int .i64 st, .int .i64 us, .int .i64 F] 0 false (some 64)) →
    callN P5 n 47 [.ptr (.new kc) 0] H = if st + 1 > F then some (.panic (stopV 6 []), H.put kc (.row [.int .i64 (st + 1 : Nat), .int .i64 us, .int .i64 F] 0 false (some 64))) else some (.ret (.tuple []), H.put kc (.row [.int .i64 (st + 1 : Nat), .int .i64 us, .int .i64 F] 0 false (some 64))) := by
  refine Ev.succ ((stop61.and (Ev.ge 3)).mono fun n hn kc st us H h1 h2 g => ?_)
  obtain ⟨e61, hn⟩ := hn
  rw [callN_code (P := P5) (sf := c47) rfl (code47 _ _) rfl rfl]
  have hw := wrap_nat64 (n := st) (by omega)
  by_cases hf : st + 1 > F
  · have hd : ((st + 1 : Nat) : Int) > (F : Int) := by omega
    simp -implicitDefEqProofs only [c47, ↓v_lenS, ZZ, Nat.reduceBEq, reduceIte, Nat.reduceAdd, Nat.reduceLeDiff, Nat.reduceEqDiff, Nat.reduceBneDiff, CL, g, hw, hd, e61, if_pos hf]
  · have hd : ¬ ((st + 1 : Nat) : Int) > (F : Int) := by omega
    simp -implicitDefEqProofs only [c47, ↓v_lenS, ZZ, Nat.reduceBEq, reduceIte, Nat.reduceAdd, Nat.reduceLeDiff, Nat.reduceEqDiff, Nat.reduceBneDiff, CL, g, hw, hd, if_neg hf]
def GiveC (F kw kc d : Nat) (H : Heap) (bs : List Nat) (r : R) (q : Nat × S) : Prop := Gives r fun cv H' => ∃ x, St F kw kc H' (bs ++ x) q.2 d ∧ PC (bs ++ x) q.1 cv ∧ Keep H H'
theorem find_loop {call : CallF} {n : Nat} {H : Heap} {bs : List Nat} {name : Str} {KK : Ex → Fr → Heap → R} {Q : AV → Heap → Prop} : ∀ (env : Env) (ev : AV), EnvR H bs env ev → ∀ (m : Nat) (fr : Fr), env.length < m → fr 0 = ev → fr 1 = .str name →
    (∀ p c fr', env.find? (fun p => p.1 == name) = some p → PC bs p.2 c → fr' 4 = c → Gives (KK .ret fr' H) Q) → (∀ fr', env.find? (fun p => p.1 == name) = none → Gives (KK (.exit 0) fr' H) Q) → Gives (loopR call n c48_l0 m fr H KK) Q := by
  intro env ev h
  induction h with
  | nil =>
    intro m fr hm r0 r1 hF hN
    obtain ⟨m, rfl⟩ : ∃ k, m = k + 1 := ⟨m - 1, by simp at hm; omega⟩
    rw [loop_succ]
    simp -implicitDefEqProofs only [c48_l0, ↓v_lenS, ZZ, Nat.reduceBEq, reduceIte, Nat.reduceAdd, Nat.reduceLeDiff, Nat.reduceEqDiff, Nat.reduceBneDiff, r0, r1]
    exact hN _ rfl
  | @cons nm i env j c v hj hc hv ih =>
    intro m fr hm r0 r1 hF hN
    obtain ⟨m, rfl⟩ : ∃ k, m = k + 1 := ⟨m - 1, by simp at hm; omega⟩
    rw [loop_succ]
    by_cases he : nm = name
    · subst he
      simp -implicitDefEqProofs only [c48_l0, ↓v_lenS, ZZ, Nat.reduceBEq, reduceIte, Nat.reduceAdd, Nat.reduceLeDiff, Nat.reduceEqDiff, Nat.reduceBneDiff, r0, r1, hj]
      refine hF (nm, i) c _ (by simp) hc rfl
    · have hb : (nm == name) = false := by simpa using he
      simp -implicitDefEqProofs only [c48_l0, ↓v_lenS, ZZ, Nat.reduceBEq, reduceIte, Nat.reduceAdd, Nat.reduceLeDiff, Nat.reduceEqDiff, Nat.reduceBneDiff, r0, r1, hj, hb]
      refine ih m _ (by simp at hm; omega) rfl r1 ?_ ?_
      · intro p c fr' h1 h2 h3
        exact hF p c fr' (by rw [List.find?_cons, hb]; exact h1) h2 h3
      · intro fr' h1
        exact hN fr' (by rw [List.find?_cons, hb]; exact h1)
theorem find41 (env : Env) (name : Str) : Ev fun n => ∀ F kw kc d H bs ev s, St F kw kc H bs s d → EnvR H bs env ev → GiveC F kw kc d H bs (callN P5 n 48 [ev, .str name] H) (lookA env name s) := by
  refine Ev.succ ((Ev.ge (env.length + 3)).mono fun n hn F kw kc d H bs ev s st he => ?_)
  rw [callN_code (P := P5) (sf := c48) rfl (code48 _ _) rfl rfl]
  unfold GiveC
  simp -implicitDefEqProofs only [c48, ↓v_lenS, ZZ, Nat.reduceBEq, reduceIte, Nat.reduceAdd, Nat.reduceLeDiff, Nat.reduceEqDiff, Nat.reduceBneDiff, CL]
  refine find_loop (name := name) env ev he n _ (by omega) rfl rfl ?_ ?_
  · intro p c fr' h1 h2 h3
    simp -implicitDefEqProofs only [↓v_lenS, ZZ, Nat.reduceBEq, reduceIte, Nat.reduceAdd, Nat.reduceLeDiff, Nat.reduceEqDiff, Nat.reduceBneDiff, h3, gives_ret]
    refine ⟨[], ?_⟩
    simp only [lookA, h1, List.append_nil]
    exact ⟨st, h2, HKeep.refl⟩
  · intro fr' h1
    simp -implicitDefEqProofs only [↓v_lenS, ZZ, Nat.reduceBEq, reduceIte, Nat.reduceAdd, Nat.reduceLeDiff, Nat.reduceEqDiff, Nat.reduceBneDiff, gives_ret]
    refine ⟨[H.n], ?_⟩
    simp only [lookA, h1]
    refine ⟨st.new (c := .done (.atom 3 emptyT)) ⟨[_, _, _, _, _, _, _, _, _, _], _, _, _, _, _, _, rfl, _, _, _, _, _, _, _, _, rfl, by decide, by decide, ⟨by decide, fun h => by cases h⟩, ⟨rfl, rfl, rfl, rfl⟩, ⟨rfl, rfl, rfl, rfl⟩⟩, ?_, HKeep.push st.low⟩
    rw [show (S.new s (.done (.atom 3 emptyT))).1 = bs.length from st.len.symm]
    exact PC.new
theorem done25 : Ev fun n => ∀ F kw kc d H bs cs s v, St F kw kc H bs s d → ValR H bs v cs → GiveC F kw kc d H bs (callN P5 n 24 [.agg cs] H) (s.new (.done v)) := by
  refine Ev.succ ((Ev.ge 3).mono fun n hn F kw kc d H bs cs s v st hv => ?_)
  rw [callN_code (P := P5) (sf := c24) rfl (code24 _ _) rfl rfl]
  unfold GiveC
  obtain ⟨t, c2, c3, c4, c5, c6, c7, c8, c9, rfl, _, _, _, ⟨f2, f3, f4, f5⟩, ⟨f6, f7, f8, f9⟩⟩ := hv.ten
  simp -implicitDefEqProofs only [c24, ↓v_lenS, ZZ, Nat.reduceBEq, reduceIte, Nat.reduceAdd, Nat.reduceLeDiff, Nat.reduceEqDiff, Nat.reduceBneDiff, CL, f2, f3, f4, f5, f6, f7, f8, f9, gives_ret]
  refine ⟨[H.n + 1], ?_, ?_, (HKeep.push st.low).pushed st.low⟩
  · exact (st.push (ob := .row [.int .i64 v.kind, .str t, c2, c3, c4, c5, c6, c7, c8, c9] 0 false (some 75))).new (c := .done v) ⟨[_, _, _, _, _, _, _, _, _, _], _, _, _, _, _, _, rfl, by simpa using hv.keep (x := []) (Stay.push st.low)⟩
  · rw [show (S.new s (.done v)).1 = bs.length from st.len.symm]
    exact PC.new
theorem argument42 (e : X) (env : Env) (ht : e.tame) : Ev fun n => ∀ F kw kc d H bs ev s, St F kw kc H bs s d → EnvR H bs env ev → GiveC F kw kc d H bs (callN P5 n 49 [e.v, ev] H) (argA e env s) := by
  obtain ⟨k, t, ns, a⟩ := e
  rw [X.tame] at ht
  refine Ev.succ (((find41 env t).and (const46.and (done25.and (Ev.ge 3)))).mono fun n hn F kw kc d H bs ev s st he => ?_)
  obtain ⟨e41, e46, e25, hn⟩ := hn
  rw [callN_code (P := P5) (sf := c49) rfl (code49 _ _) rfl rfl]
  unfold GiveC
  rw [X.v_mk]
  have fe := he.flat
  have st1 := st.push (ob := .row [.int .i64 k, .str t, vStrs ns, vXs a] 0 false (some 28))
  have kp1 : Keep H (H.push (.row [.int .i64 k, .str t, vStrs ns, vXs a] 0 false (some 28))) := HKeep.push st.low
  have he1 : EnvR (H.push (.row [.int .i64 k, .str t, vStrs ns, vXs a] 0 false (some 28))) bs env ev := by simpa using he.keep (x := []) kp1.stay
  by_cases h5 : k = 5
  · subst h5
    simp -implicitDefEqProofs only [c49, ↓v_lenS, ZZ, Nat.reduceBEq, reduceIte, Nat.reduceAdd, Nat.reduceLeDiff, Nat.reduceEqDiff, Nat.reduceBneDiff, CL, XS, argA]
    refine gives_call (e41 F kw kc d _ bs ev s st1 he1) ?_
    rintro cv H' ⟨x, g1, g2, g3⟩
    simp -implicitDefEqProofs only [↓v_lenS, ZZ, Nat.reduceBEq, reduceIte, Nat.reduceAdd, Nat.reduceLeDiff, Nat.reduceEqDiff, Nat.reduceBneDiff, gives_ret]
    exact ⟨x, g1, g2, kp1.trans g3⟩
  have b5 : (k == 5) = false := by simpa using h5
  by_cases h14 : 1 ≤ k ∧ k ≤ 4
  · have hk : k = 1 ∨ k = 2 ∨ k = 3 ∨ k = 4 := by omega
    have ha : argA (.mk k t ns a) env s = s.new (.done (constV k t)) := by simp only [argA, if_neg h5, if_pos h14]
    rw [ha]
    have key : ∀ cs H', cs = constCs k t → Keep H H' → St F kw kc H' bs s d → Gives (callN P5 n 24 [.agg cs] H') fun cv H' => ∃ x, St F kw kc H' (bs ++ x) (s.new (.done (constV k t))).2 d ∧ PC (bs ++ x) (s.new (.done (constV k t))).1 cv ∧ Keep H H' := by
      rintro cs H' rfl k1 s1
      refine (e25 F kw kc d H' bs _ s (constV k t) s1 (const_val ht.1)).mono ?_
      rintro cv H2 ⟨x, g1, g2, g3⟩
      exact ⟨x, g1, g2, k1.trans g3⟩
    rcases hk with rfl | rfl | rfl | rfl <;>
    · simp -implicitDefEqProofs only [c49, ↓v_lenS, ZZ, Nat.reduceBEq, reduceIte, Nat.reduceAdd, Nat.reduceLeDiff, Nat.reduceEqDiff, Nat.reduceBneDiff, CL, XS, e46, Int.reduceBEq]
      refine gives_call (key _ _ rfl kp1 st1) ?_
      rintro cv H' ⟨x, g1, g2, g3⟩
      simp -implicitDefEqProofs only [↓v_lenS, ZZ, Nat.reduceBEq, reduceIte, Nat.reduceAdd, Nat.reduceLeDiff, Nat.reduceEqDiff, Nat.reduceBneDiff, gives_ret]
      exact ⟨x, g1, g2, g3⟩
  · have b1 : (k == 1) = false := by simp; omega
    have b2 : (k == 2) = false := by simp; omega
    have b3 : (k == 3) = false := by simp; omega
    have b4 : (k == 4) = false := by simp; omega
    have ha : argA (.mk k t ns a) env s = s.new (.wait (.mk k t ns a) env) := by simp only [argA, if_neg h5, if_neg h14]
    rw [ha]
    simp -implicitDefEqProofs only [c49, ↓v_lenS, ZZ, Nat.reduceBEq, reduceIte, Nat.reduceAdd, Nat.reduceLeDiff, Nat.reduceEqDiff, Nat.reduceBneDiff, CL, XS, b1, b2, b3, b4, b5, fe, gives_ret]
    refine ⟨[H.n + 1], ?_, ?_, kp1.pushed st.low⟩
    · exact st1.new (c := .wait (.mk k t ns a) env) ⟨_, rfl, by rw [X.tame]; exact ht, he1⟩
    · rw [show (S.new s (.wait (.mk k t ns a) env)).1 = bs.length from st.len.symm]
      exact PC.new
end Go.Lite

/-
  A cell's value.
-/
namespace Go.Lite
open Go Go.Proofs
theorem GiveV.from {F kw kc : Nat} {H H1 : Heap} {bs : List Nat} {r : R} {o : O V} (h : GiveV F kw kc H1 bs r o) (k : Keep H H1) : GiveV F kw kc H bs r o := by
  cases o with
  | val v s =>
    obtain ⟨cs, H', x, h1, h2, h3, h4⟩ := h
    exact ⟨cs, H', x, h1, h2, h3, k.trans h4⟩
  | stop a t s =>
    obtain ⟨H', h1, h2, h3⟩ := h
    exact ⟨H', h1, h2, k.trans h3⟩
theorem giveV_cell {F kw kc : Nat} {H H4 G : Heap} {bs x : List Nat} {c b : Nat} {vs cs z : List AV} {v : V} {s : S} (g2 : ValR H4 (bs ++ x) v vs) (g3 : St F kw kc H4 (bs ++ x) s 0) (kk : Keep H H4) (low : HLow H) (hb : (bs ++ x)[c]? = some b) (hbH : ∃ o, H.t.get b = some (.row o 0 false (some 110))) {k : Nat} (hk : H.n ≤ k) (hk4 : H4.t.get k = some (.row z 0 false (some 75)))
    (hn : G.n = H4.n) (hG : ∀ j, G.t.get j = if j = k then some (.row vs 0 false (some 75)) else if j = b then some (.row cs 0 false (some 110)) else H4.t.get j) (hcs : ∃ d0 d1 d2 d3 d4 e, cs = vs ++ [d0, d1, d2, d3, d4, .bool true, e]) : GiveV F kw kc H bs (some (.ret (.agg vs), G)) (.val v (s.set c (.done v))) := by
  obtain ⟨c0, cs0, _, gb, _⟩ := g3.at hb
  have nbk : b ≠ k := apart_ty gb hk4 (by decide)
  have lk := g3.low.lt hk4
  have lb := g3.low.lt gb
  have lowG : HLow G := fun j o hj => by
    rw [hG] at hj
    rw [hn]
    split at hj
    · omega
    split at hj
    · omega
    · exact g3.low j o hj
  have stay : Stay H4 G := fun j cs' es' fz' t' g ht => by
    rw [hG, if_neg, if_neg]
    · exact g
    · rintro rfl; rw [gb] at g; simp only [Option.some.injEq, Obj.row.injEq] at g; omega
    · rintro rfl; rw [hk4] at g; simp only [Option.some.injEq, Obj.row.injEq] at g; omega
  have hv : ValR G (bs ++ x) v vs := by simpa using g2.keep (x := []) stay
  obtain ⟨d0, d1, d2, d3, d4, e, rfl⟩ := hcs
  refine ⟨vs, G, x, rfl, hv, ?_, ?_⟩
  · refine g3.sets hb lowG stay ?_ (by rw [hG, if_neg nbk, if_pos rfl]) ⟨vs, d0, d1, d2, d3, d4, e, rfl, hv⟩
    intro j cs' t hj ht hne
    rw [hG, if_neg, if_neg hne]
    · exact hj
    · rintro rfl; rw [hk4] at hj; simp only [Option.some.injEq, Obj.row.injEq] at hj; omega
  · refine ⟨by rw [hn]; exact kk.n, fun j o hj hx => ?_, fun _ => lowG⟩
    have hl := low.lt hj
    rw [hG, if_neg (by omega), if_neg]
    · exact kk.get j o hj hx
    · rintro rfl
      obtain ⟨o', ho'⟩ := hbH
      rw [ho'] at hj
      simp only [Option.some.injEq] at hj
      subst hj
      exact hx ⟨_, _, _, _, rfl, .inl rfl⟩
set_option maxHeartbeats 2000000 in
theorem force39 {F m : Nat} (ih : EvalOk F m) : ForceOk F (m + 1) := by
  intro c s o ho
  rw [forceA] at ho
  have key : Ev fun n => match s.cells[c]? with
    | some (.wait e env) => ∀ p, evalA F m e env (s.set c (.busy e env)).used = some p → e.tame → ∀ kw kc H bs ev, St F kw kc H bs (s.set c (.busy e env)).used 1 → EnvR H bs env ev → GiveV F kw kc H bs (callN P5 n 27 [.ptr (.new kw) 0, e.v, ev] H) p
    | _ => True := by
    cases hc : s.cells[c]? with
    | none => exact Ev.of fun n => trivial
    | some cc =>
      cases cc with
      | wait e env =>
        by_cases hx : ∃ p, evalA F m e env (s.set c (.busy e env)).used = some p
        · obtain ⟨p, hp⟩ := hx
          by_cases ht : e.tame
          · refine (ih e env _ p ht hp).mono fun n hn p' h _ => ?_
            obtain rfl : p = p' := Option.some.inj (hp.symm.trans h)
            exact hn
          · exact Ev.of fun n p h hh => absurd hh ht
        · exact Ev.of fun n p h => absurd ⟨p, h⟩ hx
      | busy e env => exact Ev.of fun n => trivial
      | done v => exact Ev.of fun n => trivial
  refine Ev.succ ((key.and (stop61.and (Ev.ge 3))).mono fun n hn kw kc H bs cv st hcv => ?_)
  obtain ⟨hkey, e61, hn⟩ := hn
  obtain ⟨b, hb, rfl⟩ := hcv
  obtain ⟨cc, cs, hcc, gb, hcr⟩ := st.at hb
  obtain ⟨wa, wb, gw⟩ := st.w
  have gc := st.c
  rw [hcc] at ho hkey
  have lb := st.low.lt gb
  have lc := st.low.lt gc
  have lw := st.low.lt gw
  have nb : ¬ b = H.n := by omega
  have nc : ¬ kc = H.n := by omega
  have nw : ¬ kw = H.n := by omega
  have nb' : ¬ H.n = b := by omega
  have nc' : ¬ H.n = kc := by omega
  have nbc : ¬ b = kc := apart_ty gb gc (by decide)
  have ncb : ¬ kc = b := fun h => nbc h.symm
  have nwc : ¬ kw = kc := apart_ty gw gc (by decide)
  have nwb : ¬ kw = b := apart_ty gw gb (by decide)
  rw [callN_code (P := P5) (sf := c46) rfl (code46 _ _) rfl rfl]
  cases cc with
  | done v =>
    simp only [Option.some.injEq] at ho
    subst ho
    obtain ⟨vs, d0, d1, d2, d3, d4, bb, rfl, hv⟩ := hcr
    obtain ⟨t, c2, c3, c4, c5, c6, c7, c8, c9, rfl, _, _, _, ⟨f2, f3, f4, f5⟩, ⟨f6, f7, f8, f9⟩⟩ := hv.ten
    simp only [List.cons_append, List.nil_append] at gb
    simp -implicitDefEqProofs only [c46, ↓v_lenS, ZZ, Nat.reduceBEq, reduceIte, Nat.reduceAdd, Nat.reduceLeDiff, Nat.reduceEqDiff, Nat.reduceBneDiff, CL, gb, nb, nb', f2, f3, f4, f5, f6, f7, f8, f9]
    have kp : Keep H (H.push (.row [AV.int .i64 0, .str [], .nilp, .nilp, .int .i64 0, .str [], .nils, .nils, .nilp, .nils] 0 false (some 75))) := HKeep.push st.low
    refine ⟨_, _, [], rfl, ?_, ?_, (kp.own st.low (j := H.n) (Nat.le_refl _) (by rw [h_n]; omega))⟩
    · refine hv.keep (x := []) ((kp.own st.low (j := H.n) (Nat.le_refl _) (by rw [h_n]; omega)).stay)
    · rw [List.append_nil]
      exact (st.push (ob := .row [AV.int .i64 0, .str [], .nilp, .nilp, .int .i64 0, .str [], .nils, .nils, .nilp, .nils] 0 false (some 75))).box (t := 75) (by rw [h_get, if_pos rfl]) (by decide)
  | busy e env =>
    simp only [Option.some.injEq] at ho
    subst ho
    obtain ⟨ek, et, en, ea⟩ := e
    obtain ⟨ev, rfl, ht, he⟩ := hcr
    simp -implicitDefEqProofs only [c46, ↓v_lenS, ZZ, Nat.reduceBEq, reduceIte, Nat.reduceAdd, Nat.reduceLeDiff, Nat.reduceEqDiff, Nat.reduceBneDiff, CL, gb, nb, nb', e61]
    exact ⟨_, rfl, (st.push).ends, HKeep.push st.low⟩
  | wait e env =>
    simp only [] at ho hkey
    obtain ⟨p, hp, ho⟩ := Option.bind_eq_some_iff.1 ho
    obtain ⟨ek, et, en, ea⟩ := e
    obtain ⟨ev, rfl, ht, he⟩ := hcr
    have hu : s.uses ≤ 1099511627777 := by have := st.uses; have := st.steps; have := st.small; omega
    have hw := wrap_nat64 (n := s.uses) hu
    have hcall := hkey p hp ht kw kc
    rw [X.v_mk] at hcall
    simp -implicitDefEqProofs only [c46, ↓v_lenS, ZZ, Nat.reduceBEq, reduceIte, Nat.reduceAdd, Nat.reduceLeDiff, Nat.reduceEqDiff, Nat.reduceBneDiff, CL, gb, gc, gw, nb, nb', nc, nc', nw, nbc, ncb, nwc, nwb, hw]
    have st1 := st.push (ob := .row [AV.int .i64 0, .str [], .nilp, .nilp, .int .i64 0, .str [], .nils, .nils, .nilp, .nils] 0 false (some 75))
    have st2 := st1.count (st := s.steps) (us := s.uses + 1) (d' := 1) st.steps (by have := st.uses; omega)
    have k1 : Keep H (H.push (.row [AV.int .i64 0, .str [], .nilp, .nilp, .int .i64 0, .str [], .nils, .nils, .nilp, .nils] 0 false (some 75))) := HKeep.push st.low
    have k2 : Keep H _ := k1.trans (Keep.cell st1.c (.inr rfl) st1.low (ob := .row [.int .i64 s.steps, .int .i64 (s.uses + 1 : Nat), .int .i64 F] 0 false (some 64)))
    have gb2 : ((H.push (.row [AV.int .i64 0, .str [], .nilp, .nilp, .int .i64 0, .str [], .nils, .nils, .nilp, .nils] 0 false (some 75))).put kc (.row [.int .i64 s.steps, .int .i64 (s.uses + 1 : Nat), .int .i64 F] 0 false (some 64))).t.get b = some (.row [.int .i64 0, .str [], .nilp, .nilp, .int .i64 0, .str [], .nils, .nils, .nilp, .nils, .int .i64 ek, .str et, vStrs en, vXs ea, ev, .bool false, .bool false] 0 false (some 110)) := by
      rw [h_gput, if_neg nbc, h_get, if_neg nb]; exact gb
    have st3 := st2.set (c := .busy (.mk ek et en ea) env) hb ⟨ev, rfl, ht, by simpa using he.keep (x := []) k2.stay⟩
    have k3 := k2.trans (Keep.cell gb2 (.inl rfl) st2.low (ob := .row [.int .i64 0, .str [], .nilp, .nilp, .int .i64 0, .str [], .nils, .nils, .nilp, .nils, .int .i64 ek, .str et, vStrs en, vXs ea, ev, .bool false, .bool true] 0 false (some 110)))
    have hg := hcall _ bs ev st3 (by simpa using he.keep (x := []) k3.stay)
    have gr3 : ((((H.push (.row [AV.int .i64 0, .str [], .nilp, .nilp, .int .i64 0, .str [], .nils, .nils, .nilp, .nils] 0 false (some 75))).put kc (.row [.int .i64 s.steps, .int .i64 (s.uses + 1 : Nat), .int .i64 F] 0 false (some 64))).put b (.row [.int .i64 0, .str [], .nilp, .nilp, .int .i64 0, .str [], .nils, .nils, .nilp, .nils, .int .i64 ek, .str et, vStrs en, vXs ea, ev, .bool false, .bool true] 0 false (some 110)))).t.get H.n = some (.row [AV.int .i64 0, .str [], .nilp, .nilp, .int .i64 0, .str [], .nils, .nils, .nilp, .nils] 0 false (some 75)) := by
      rw [h_gput, if_neg nb', h_gput, if_neg nc', h_get, if_pos rfl]
    generalize (((H.push (.row [AV.int .i64 0, .str [], .nilp, .nilp, .int .i64 0, .str [], .nils, .nils, .nilp, .nils] 0 false (some 75))).put kc (.row [.int .i64 s.steps, .int .i64 (s.uses + 1 : Nat), .int .i64 F] 0 false (some 64))).put b (.row [.int .i64 0, .str [], .nilp, .nilp, .int .i64 0, .str [], .nils, .nils, .nilp, .nils, .int .i64 ek, .str et, vStrs en, vXs ea, ev, .bool false, .bool true] 0 false (some 110))) = H3 at *
    cases p with
    | stop k t s' =>
      simp only [O.bind, Option.some.injEq] at ho
      subst ho
      obtain ⟨H', g1, g2, g3⟩ := hg
      rw [g1]
      simp -implicitDefEqProofs only [↓v_lenS, ZZ, Nat.reduceBEq, reduceIte, Nat.reduceAdd, Nat.reduceLeDiff, Nat.reduceEqDiff, Nat.reduceBneDiff]
      exact ⟨H', rfl, g2, k3.trans g3⟩
    | val v s' =>
      simp only [O.bind, Option.some.injEq] at ho
      subst ho
      obtain ⟨vs, H4, x, g1, g2, g3, g4⟩ := hg
      rw [g1]
      have hb4 : (bs ++ x)[c]? = some b := by rw [List.getElem?_append_left (List.getElem?_eq_some_iff.1 hb).1]; exact hb
      obtain ⟨cc4, cs4, _, gb4, hr4⟩ := g3.at hb4
      obtain ⟨a0, a1, a2, a3, a4, a5, a6, a7, a8, a9, a10, a11, a12, a13, a14, a15, a16, rfl⟩ := list17 hr4.len
      obtain ⟨t, c2, c3, c4, c5, c6, c7, c8, c9, rfl, _, _, _, ⟨f2, f3, f4, f5⟩, ⟨f6, f7, f8, f9⟩⟩ := g2.ten
      have gr4 := g4.get _ _ gr3 (quiet (by decide) (by decide))
      simp -implicitDefEqProofs only [↓v_lenS, ZZ, Nat.reduceBEq, reduceIte, Nat.reduceAdd, Nat.reduceLeDiff, Nat.reduceEqDiff, Nat.reduceBneDiff, gb4, gr4, nb, nb', f2, f3, f4, f5, f6, f7, f8, f9]
      refine giveV_cell (c := c) (k := H.n) (cs := [.int .i64 v.kind, .str t, c2, c3, c4, c5, c6, c7, c8, c9, a10, a11, a12, a13, a14, .bool true, .bool false]) g2 g3 (k3.trans g4) st.low hb4 ⟨_, gb⟩ (Nat.le_refl _) gr4 rfl (fun j => ?_) ⟨_, _, _, _, _, _, rfl⟩
      simp only [h_gput]
      by_cases j1 : j = H.n
      · simp only [j1, if_true]
      · by_cases j2 : j = b
        · simp only [j1, j2, if_true, if_false]
        · simp only [j1, j2, if_false]
end Go.Lite

/-
  Two numbers.
-/
namespace Go.Lite
open Go Go.Proofs
def atomCs (v : V) : List AV := [.int .i64 v.kind, .str v.text, .nilp, .nilp, .int .i64 0, .str [], E0, E0, .nilp, E0]
def outV (r : O V) (H : Heap) : R := match r with
  | .val v _ => some (.ret (.agg (atomCs v)), H)
  | .stop k t _ => some (.panic (stopV k t), H)
theorem decZ_byte (z : Int) : ∀ c ∈ decZ z, c < 256 := by
  unfold decZ
  intro c hc
  split at hc
  · rcases List.mem_cons.1 hc with rfl | hc
    · decide
    · have := decN_digs _ c hc; omega
  · have := decN_digs _ c hc; omega
theorem sgn_lt (z : Int) : decide (sgn z < 0) = decide (z < 0) := by
  unfold sgn
  by_cases h : z < 0
  · simp [h]
  · by_cases h2 : 0 < z <;> simp [h, h2]
theorem sgn_eq (z : Int) : (sgn z == 0) = decide (z = 0) := by
  unfold sgn
  by_cases h : z < 0
  · have : ¬ z = 0 := by omega
    simp [h, this]
  · by_cases h2 : 0 < z
    · have : ¬ z = 0 := by omega
      simp [h, h2, this]
    · have : z = 0 := by omega
      simp [this]
set_option maxHeartbeats 2000000 in
theorem num64 (op : Str) (x y : Int) (hx : x.natAbs < 10 ^ 200) (hy : y.natAbs < 10 ^ 200) (s : S) : Ev fun n => ∀ H, callN P5 n 80 [.str op, .str (decZ x), .str (decZ y)] H = outV (numsA op (decZ x) (decZ y) s) H := by
  have hq : Ev fun n => ∀ H, callN P5 n 100 [.str (decZ x), .str (decZ y)] H = some (.ret (if y = 0 then .tuple [.str [], .str [], .bool false] else .tuple [.str (opZ (x.tdiv y)), .str (opZ (x.tmod y)), .bool true]), H) := by
    by_cases h : y = 0
    · subst h
      simp only [if_true]
      exact quo22_zero x hx (by omega)
    · simp only [if_neg h]
      exact quo22 x y hx hy (by omega) h
  refine Ev.succ (((add21 x y hx hy (by omega)).and ((sub18 x y hx hy (by omega)).and ((mul20 x y hx hy (by omega)).and ((cmp19 x y hx hy (by omega)).and (hq.and (is63.and (stop61.and (Ev.ge 3)))))))).mono fun n hn H => ?_)
  obtain ⟨ea, es, em, ec, eq, e63, e61, hn⟩ := hn
  rw [callN]
  simp only [show P5.own 80 = none from rfl, show P5.code 80 = some c80 from code80 _ _, show P5.mode 80 = 2 from rfl]
  unfold numsA
  simp only [numOf_decZ]
  by_cases h1 : op = opPlus
  · subst h1
    unfold opT at ea
    simp only [if_true, numA]
    by_cases hs : (x + y).natAbs < 10 ^ 200
    · simp only [decide_eq_true hs, opZ, if_pos hs] at ea
      simp -implicitDefEqProofs only [c80, ↓v_lenS, ZZ, Nat.reduceBEq, reduceIte, Nat.reduceAdd, Nat.reduceLeDiff, Nat.reduceEqDiff, Nat.reduceBneDiff, CL, XS, opened, shutV, stepP, stopV, shutC_nilp, outV, atomCs, V.kind, V.text, E0, opPlus, ea, if_pos hs, show Nat.ble 3 70 = true from rfl]
    · simp only [decide_eq_false hs, opZ, if_neg hs] at ea
      simp -implicitDefEqProofs only [c80, ↓v_lenS, ZZ, Nat.reduceBEq, reduceIte, Nat.reduceAdd, Nat.reduceLeDiff, Nat.reduceEqDiff, Nat.reduceBneDiff, CL, XS, opened, shutV, stepP, stopV, shutC_nilp, outV, atomCs, V.kind, V.text, E0, opPlus, ea, e61, if_neg hs, show Nat.ble 3 70 = true from rfl]
  have b1 : (op == [43]) = false := by simpa [opPlus] using h1
  simp only [if_neg h1]
  by_cases h2 : op = opMinus
  · subst h2
    unfold opT at es
    simp only [if_true, numA]
    by_cases hs : (x - y).natAbs < 10 ^ 200
    · simp only [decide_eq_true hs, opZ, if_pos hs] at es
      simp -implicitDefEqProofs only [c80, ↓v_lenS, ZZ, Nat.reduceBEq, reduceIte, Nat.reduceAdd, Nat.reduceLeDiff, Nat.reduceEqDiff, Nat.reduceBneDiff, CL, XS, opened, shutV, stepP, stopV, shutC_nilp, outV, atomCs, V.kind, V.text, E0, opMinus, es, if_pos hs, show Nat.ble 3 70 = true from rfl, show ([45] == [43] : Bool) = false from rfl]
    · simp only [decide_eq_false hs, opZ, if_neg hs] at es
      simp -implicitDefEqProofs only [c80, ↓v_lenS, ZZ, Nat.reduceBEq, reduceIte, Nat.reduceAdd, Nat.reduceLeDiff, Nat.reduceEqDiff, Nat.reduceBneDiff, CL, XS, opened, shutV, stepP, stopV, shutC_nilp, outV, atomCs, V.kind, V.text, E0, opMinus, es, e61, if_neg hs, show Nat.ble 3 70 = true from rfl, show ([45] == [43] : Bool) = false from rfl]
  have b2 : (op == [45]) = false := by simpa [opMinus] using h2
  simp only [if_neg h2]
  by_cases h3 : op = opTimes
  · subst h3
    unfold opT at em
    simp only [if_true, numA]
    by_cases hs : (x * y).natAbs < 10 ^ 200
    · simp only [decide_eq_true hs, opZ, if_pos hs] at em
      simp -implicitDefEqProofs only [c80, ↓v_lenS, ZZ, Nat.reduceBEq, reduceIte, Nat.reduceAdd, Nat.reduceLeDiff, Nat.reduceEqDiff, Nat.reduceBneDiff, CL, XS, opened, shutV, stepP, stopV, shutC_nilp, outV, atomCs, V.kind, V.text, E0, opTimes, em, if_pos hs, show Nat.ble 3 70 = true from rfl, show ([42] == [43] : Bool) = false from rfl, show ([42] == [45] : Bool) = false from rfl]
    · simp only [decide_eq_false hs, opZ, if_neg hs] at em
      simp -implicitDefEqProofs only [c80, ↓v_lenS, ZZ, Nat.reduceBEq, reduceIte, Nat.reduceAdd, Nat.reduceLeDiff, Nat.reduceEqDiff, Nat.reduceBneDiff, CL, XS, opened, shutV, stepP, stopV, shutC_nilp, outV, atomCs, V.kind, V.text, E0, opTimes, em, e61, if_neg hs, show Nat.ble 3 70 = true from rfl, show ([42] == [43] : Bool) = false from rfl, show ([42] == [45] : Bool) = false from rfl]
  have b3 : (op == [42]) = false := by simpa [opTimes] using h3
  simp only [if_neg h3]
  have hlt : decide (sgn (x - y) < 0) = decide (x < y) := by rw [sgn_lt]; exact decide_eq_decide.2 (by omega)
  have heq : (sgn (x - y) == 0) = decide (x = y) := by rw [sgn_eq]; exact decide_eq_decide.2 (by omega)
  have ht : ∀ b, (truthV b).kind = 2 ∧ (truthV b).text = (if b then trueT else falseT) := fun b => ⟨rfl, rfl⟩
  by_cases h4 : op = opLess
  · subst h4
    simp only [if_true]
    simp -implicitDefEqProofs only [c80, ↓v_lenS, ZZ, Nat.reduceBEq, reduceIte, Nat.reduceAdd, Nat.reduceLeDiff, Nat.reduceEqDiff, Nat.reduceBneDiff, CL, XS, opened, shutC_nilp, outV, atomCs, (ht _).1, (ht _).2, truthCs, E0, opLess, ec, e63, hlt, show Nat.ble 3 70 = true from rfl, show ([60] == [43] : Bool) = false from rfl, show ([60] == [45] : Bool) = false from rfl, show ([60] == [42] : Bool) = false from rfl]
  have b4 : (op == [60]) = false := by simpa [opLess] using h4
  simp only [if_neg h4]
  by_cases h5 : op = opSame
  · subst h5
    simp only [if_true]
    simp -implicitDefEqProofs only [c80, ↓v_lenS, ZZ, Nat.reduceBEq, reduceIte, Nat.reduceAdd, Nat.reduceLeDiff, Nat.reduceEqDiff, Nat.reduceBneDiff, CL, XS, opened, shutC_nilp, outV, atomCs, (ht _).1, (ht _).2, truthCs, E0, opSame, ec, e63, heq, show Nat.ble 3 70 = true from rfl, show ([61] == [43] : Bool) = false from rfl, show ([61] == [45] : Bool) = false from rfl, show ([61] == [42] : Bool) = false from rfl, show ([61] == [60] : Bool) = false from rfl]
  have b5 : (op == [61]) = false := by simpa [opSame] using h5
  simp only [if_neg h5]
  by_cases h0 : y = 0
  · simp only [if_pos h0] at eq ⊢
    simp -implicitDefEqProofs only [c80, ↓v_lenS, ZZ, Nat.reduceBEq, reduceIte, Nat.reduceAdd, Nat.reduceLeDiff, Nat.reduceEqDiff, Nat.reduceBneDiff, CL, XS, opened, shutV, stepP, stopV, shutC_nilp, outV, eq, e61, b1, b2, b3, b4, b5, show Nat.ble 3 70 = true from rfl]
  · simp only [if_neg h0] at eq ⊢
    have hdv : (x.tdiv y).natAbs < 10 ^ 200 := by
      have := Int.natAbs_tdiv_le_natAbs x y
      omega
    have hmd : (x.tmod y).natAbs < 10 ^ 200 := by
      rw [Int.natAbs_tmod]
      exact Nat.lt_of_le_of_lt (Nat.mod_le _ _) hx
    simp only [opZ, if_pos hdv, if_pos hmd] at eq
    by_cases h6 : op = opRem
    · subst h6
      simp only [if_true]
      simp -implicitDefEqProofs only [c80, ↓v_lenS, ZZ, Nat.reduceBEq, reduceIte, Nat.reduceAdd, Nat.reduceLeDiff, Nat.reduceEqDiff, Nat.reduceBneDiff, CL, XS, opened, shutV, stepP, stopV, shutC_nilp, outV, eq, opRem, atomCs, V.kind, V.text, E0, show Nat.ble 3 70 = true from rfl, show (opRem == [43] : Bool) = false from rfl, show (opRem == [45] : Bool) = false from rfl, show (opRem == [42] : Bool) = false from rfl, show (opRem == [60] : Bool) = false from rfl, show (opRem == [61] : Bool) = false from rfl, show ([114, 101, 109, 97, 105, 110, 100, 101, 114] == [43] : Bool) = false from rfl, show ([114, 101, 109, 97, 105, 110, 100, 101, 114] == [45] : Bool) = false from rfl, show ([114, 101, 109, 97, 105, 110, 100, 101, 114] == [42] : Bool) = false from rfl, show ([114, 101, 109, 97, 105, 110, 100, 101, 114] == [60] : Bool) = false from rfl, show ([114, 101, 109, 97, 105, 110, 100, 101, 114] == [61] : Bool) = false from rfl]
    · have b6 : (op == [114, 101, 109, 97, 105, 110, 100, 101, 114]) = false := by simpa [opRem] using h6
      simp only [if_neg h6]
      simp -implicitDefEqProofs only [c80, ↓v_lenS, ZZ, Nat.reduceBEq, reduceIte, Nat.reduceAdd, Nat.reduceLeDiff, Nat.reduceEqDiff, Nat.reduceBneDiff, CL, XS, opened, shutV, stepP, stopV, shutC_nilp, outV, eq, b1, b2, b3, b4, b5, b6, atomCs, V.kind, V.text, E0, show Nat.ble 3 70 = true from rfl]
theorem num_val {op : Str} {x y : Int} (hx : x.natAbs < 10 ^ 200) (hy : y.natAbs < 10 ^ 200) {s s' : S} {v : V} (h : numsA op (decZ x) (decZ y) s = .val v s') (H : Heap) (bs : List Nat) : s' = s ∧ ValR H bs v (atomCs v) := by
  have hn : ∀ z : Int, z.natAbs < 10 ^ 200 → ValR H bs (.atom 1 (decZ z)) (atomCs (.atom 1 (decZ z))) := fun z hz =>
    ⟨_, _, _, _, _, _, _, _, rfl, by decide, by decide, ⟨⟨by have := decZ_len hz (by omega); omega, decZ_byte z⟩, fun _ => ⟨z, hz, rfl⟩⟩, ⟨rfl, rfl, rfl, rfl⟩, ⟨rfl, rfl, rfl, rfl⟩⟩
  have hdv : (x.tdiv y).natAbs < 10 ^ 200 := by
    have := Int.natAbs_tdiv_le_natAbs x y
    omega
  have hmd : (x.tmod y).natAbs < 10 ^ 200 := by
    rw [Int.natAbs_tmod]
    exact Nat.lt_of_le_of_lt (Nat.mod_le _ _) hx
  unfold numsA numA at h
  simp only [numOf_decZ] at h
  repeat' split at h
  all_goals first
    | (cases h; done)
    | (simp only [O.val.injEq] at h; obtain ⟨rfl, rfl⟩ := h; exact ⟨rfl, hn _ (by assumption)⟩)
    | (simp only [O.val.injEq] at h; obtain ⟨rfl, rfl⟩ := h; exact ⟨rfl, truth_val _⟩)
end Go.Lite

/-
  A primitive of one.
-/
namespace Go.Lite
open Go Go.Proofs
theorem St.boxed {F kw kc : Nat} {H : Heap} {bs : List Nat} {s : S} {d t1 t2 : Nat} {a b c : List AV} (st : St F kw kc H bs s d) (ht : t2 = 28 ∨ t2 = 75 ∨ t2 = 162) : St F kw kc (((H.push (.row a 0 false (some t1))).push (.row b 0 false (some t2))).put (H.n + 1) (.row c 0 false (some t2))) bs s d :=
  (st.push.push).box (k := H.n + 1) (t := t2) (cs := b) (es := 0) (fz := false) (by rw [h_get, if_pos (by rw [h_n])]) ht
theorem Keep.boxed {H : Heap} {a b c : Obj} (low : HLow H) : Keep H (((H.push a).push b).put (H.n + 1) c) :=
  (((HKeep.push low).pushed low).own low (by omega) (by rw [h_n, h_n]; omega))
theorem tail_store {F kw kc : Nat} {H H1 : Heap} {bs : List Nat} {r : R} {o : O V} (g : GiveV F kw kc H1 bs r o) (kp : Keep H H1) (low : HLow H) {k d b : Nat} {z : List AV} (hkH : H.n ≤ k) (hk : H1.t.get k = some (.row z 0 false (some 75))) (hz : z.length = 10)
    {call : CallF} {fr : Fr} {K : Fr → Heap → R} (hb : fr b = .ptr (.new k) 0) (hbd : b ≠ d) (hK : ∀ fr' H' cs, fr' b = .ptr (.new k) 0 → H'.t.get k = some (.row cs 0 false (some 75)) → cs.length = 10 → K fr' H' = some (.ret (.agg cs), H')) :
    GiveV F kw kc H bs (stepC r call (some d) [⟨none, none, .w (.store 10 (.tmp b) (.tmp d))⟩] fr K) o := by
  cases o with
  | stop a t s =>
    obtain ⟨H', rfl, h2, h3⟩ := g
    rw [k_cp]
    exact ⟨H', rfl, h2, kp.trans h3⟩
  | val v s =>
    obtain ⟨vs, H', x, rfl, h2, h3, h4⟩ := g
    have hk' := h4.get _ _ hk (quiet (by decide) (by decide))
    have lk := h3.low.lt hk'
    obtain ⟨t, c2, c3, c4, c5, c6, c7, c8, c9, rfl, _, _, _, ⟨f2, f3, f4, f5⟩, ⟨f6, f7, f8, f9⟩⟩ := h2.ten
    have hbeq : (b == d) = false := by simpa using hbd
    have hz2 : List.drop 10 z = [] := List.drop_eq_nil_of_le (by omega)
    have hKK := hK (fr.set d (.agg [.int .i64 v.kind, .str t, c2, c3, c4, c5, c6, c7, c8, c9])) (H'.put k (.row [.int .i64 v.kind, .str t, c2, c3, c4, c5, c6, c7, c8, c9] 0 false (some 75))) [.int .i64 v.kind, .str t, c2, c3, c4, c5, c6, c7, c8, c9] (by rw [fr_get, hbeq]; exact hb) (by rw [h_gput, if_pos rfl]) rfl
    have hstay : Stay H' (H'.put k (.row [.int .i64 v.kind, .str t, c2, c3, c4, c5, c6, c7, c8, c9] 0 false (some 75))) := Stay.put hk' (by decide) (by decide) (by decide)
    simp -implicitDefEqProofs only [↓v_lenS, ZZ, Nat.reduceBEq, reduceIte, Nat.reduceAdd, Nat.reduceLeDiff, Nat.reduceEqDiff, Nat.reduceBneDiff, hb, hbeq, hk', hz, hz2, f2, f3, f4, f5, f6, f7, f8, f9, hKK]
    refine ⟨_, _, x, rfl, by simpa using h2.keep (x := []) hstay, h3.box hk' (by decide), (kp.trans h4).own low hkH lk⟩
theorem give_here {F kw kc : Nat} {H G : Heap} {bs : List Nat} {s : S} {v : V} {cs : List AV} (st : St F kw kc G bs s 0) (hv : ValR G bs v cs) (k : Keep H G) : GiveV F kw kc H bs (some (.ret (.agg cs), G)) (.val v s) :=
  ⟨cs, G, [], rfl, by simpa using hv, by simpa using st, k⟩
noncomputable def oneF (force : Nat → S → Option (O V)) (t : Str) (v : V) (s : S) : Option (O V) :=
  if t = carT ∨ t = cdrT then match v with
    | .pair p q => force (if t = carT then p else q) s
    | _ => some (.stop 2 [112, 97, 105, 114] s)
  else if t = nullT then some (.val (truthV (v.kind == 3)) s)
  else if t = pairT then some (.val (truthV (v.kind == 5)) s)
  else if t = integerT then some (.val (truthV (v.kind == 1)) s)
  else if t = symbolT then some (.val (truthV (v.kind == 4)) s)
  else if t = notT then some (.val (truthV v.isFalse) s)
  else some (.stop 2 (if v.kind < 5 then errorT ++ 32 :: v.text else errorT) s)
theorem kind_beq {H : Heap} {bs : List Nat} {v : V} {cs : List AV} (h : ValR H bs v cs) : ((v.kind == 5) = true ↔ ∃ p q, v = .pair p q) := by
  cases v with
  | atom k t =>
    obtain ⟨_, _, _, _, _, _, _, _, _, _, h4, _⟩ := h
    simp [V.kind]; omega
  | pair p q => simp [V.kind]
  | fn e env g => simp [V.kind]
set_option maxHeartbeats 4000000 in
theorem one45 {F m : Nat} (ih : ForceOk F m) (t : Str) (v : V) (s : S) (o : O V) (h : oneF (forceA F m) t v s = some o) : Ev fun n => ∀ kw kc H bs cs, St F kw kc H bs s 0 → ValR H bs v cs → GiveV F kw kc H bs (callN P5 n 52 [.ptr (.new kw) 0, .str t, .agg cs] H) o := by
  unfold oneF at h
  have hF : Ev fun n => ∀ p q, v = .pair p q → (t = carT ∨ t = cdrT) → ∀ kw kc H bs cv, St F kw kc H bs s 0 → PC bs (if t = carT then p else q) cv → GiveV F kw kc H bs (callN P5 n 46 [.ptr (.new kw) 0, cv] H) o := by
    by_cases hx : ∃ p q, v = .pair p q
    · obtain ⟨p, q, rfl⟩ := hx
      by_cases ht : t = carT ∨ t = cdrT
      · rw [if_pos ht] at h
        refine (ih _ s o h).mono fun n hn p' q' e _ => ?_
        simp only [V.pair.injEq] at e
        obtain ⟨rfl, rfl⟩ := e
        exact hn
      · exact Ev.of fun n p q _ h' => absurd h' ht
    · exact Ev.of fun n p q e => absurd ⟨p, q, e⟩ hx
  refine Ev.succ ((hF.and (stop61.and (is63.and (Ev.ge 3)))).mono fun n hn kw kc H bs cs st hv => ?_)
  obtain ⟨eF, e61, e63, hn⟩ := hn
  rw [callN_code (P := P5) (sf := c52) rfl (code52 _ _) rfl rfl]
  have hp5 := kind_beq hv
  have hv0 := hv
  obtain ⟨tx, c2, c3, c4, c5, c6, c7, c8, c9, rfl, htx, hk1, hk6, ⟨f2, f3, f4, f5⟩, ⟨f6, f7, f8, f9⟩⟩ := hv.ten
  have k2 : Keep H ((H.push (.row [.int .i64 v.kind, .str tx, c2, c3, c4, c5, c6, c7, c8, c9] 0 false (some 75))).push (.row [AV.int .i64 0, .str [], .nilp, .nilp, .int .i64 0, .str [], .nils, .nils, .nilp, .nils] 0 false (some 75))) := (HKeep.push st.low).pushed st.low
  have st2 := (st.push (ob := .row [.int .i64 v.kind, .str tx, c2, c3, c4, c5, c6, c7, c8, c9] 0 false (some 75))).push (ob := .row [AV.int .i64 0, .str [], .nilp, .nilp, .int .i64 0, .str [], .nils, .nils, .nilp, .nils] 0 false (some 75))
  have gr2 : ((H.push (.row [.int .i64 v.kind, .str tx, c2, c3, c4, c5, c6, c7, c8, c9] 0 false (some 75))).push (.row [AV.int .i64 0, .str [], .nilp, .nilp, .int .i64 0, .str [], .nils, .nils, .nilp, .nils] 0 false (some 75))).t.get (H.n + 1) = some (.row [AV.int .i64 0, .str [], .nilp, .nilp, .int .i64 0, .str [], .nils, .nils, .nilp, .nils] 0 false (some 75)) := by rw [h_get, if_pos (by rw [h_n])]
  by_cases hcar : t = carT ∨ t = cdrT
  · rw [if_pos hcar] at h
    cases hb : (v.kind == 5) with
    | false =>
      have hbn : (v.kind != 5) = true := by rw [bne, hb]; rfl
      have ho : o = .stop 2 [112, 97, 105, 114] s := by
        split at h
        · rename_i p q; simp [V.kind] at hb
        · exact (Option.some.inj h).symm
      subst ho
      rcases hcar with rfl | rfl <;>
      · simp -implicitDefEqProofs only [c52, ↓v_lenS, ZZ, Nat.reduceBEq, reduceIte, Nat.reduceAdd, Nat.reduceLeDiff, Nat.reduceEqDiff, Nat.reduceBneDiff, CL, carT, cdrT, f2, f3, f4, f5, f6, f7, f8, f9, hbn, e61, show ([99, 100, 114] == [99, 97, 114] : Bool) = false from rfl]
        exact ⟨_, rfl, st2.ends, k2⟩
    | true =>
      obtain ⟨p, q, rfl⟩ := hp5.1 hb
      obtain ⟨p2, p3, e, hp2, hp3⟩ := hv
      simp only [List.cons.injEq, AV.str.injEq, true_and, and_true] at e
      obtain ⟨rfl, rfl, rfl, rfl, rfl, rfl, rfl, rfl, rfl⟩ := e.2
      have hg := fun H' => eF p q rfl hcar kw kc H' bs
      by_cases hc1 : t = carT
      · subst hc1
        simp -implicitDefEqProofs only [c52, ↓v_lenS, ZZ, Nat.reduceBEq, reduceIte, Nat.reduceAdd, Nat.reduceLeDiff, Nat.reduceEqDiff, Nat.reduceBneDiff, CL, carT, V.kind, f2, f3, Int.reduceBNe]
        refine tail_store (k := H.n + 1) (hg _ c2 st2 (by simpa using hp2)) k2 st.low (by omega) gr2 rfl rfl (by decide) ?_
        intro fr' H' cs hb hk hl
        simp -implicitDefEqProofs only [↓v_lenS, ZZ, Nat.reduceBEq, reduceIte, Nat.reduceAdd, Nat.reduceLeDiff, Nat.reduceEqDiff, Nat.reduceBneDiff, hb, hk, hl, List.take_of_length_le (Nat.le_of_eq hl)]
      · obtain rfl := hcar.resolve_left hc1
        simp -implicitDefEqProofs only [c52, ↓v_lenS, ZZ, Nat.reduceBEq, reduceIte, Nat.reduceAdd, Nat.reduceLeDiff, Nat.reduceEqDiff, Nat.reduceBneDiff, CL, cdrT, V.kind, f2, f3, Int.reduceBNe, show ([99, 100, 114] == [99, 97, 114] : Bool) = false from rfl]
        refine tail_store (k := H.n + 1) (hg _ c3 st2 (by rw [if_neg (by decide)]; exact hp3)) k2 st.low (by omega) gr2 rfl rfl (by decide) ?_
        intro fr' H' cs hb hk hl
        simp -implicitDefEqProofs only [↓v_lenS, ZZ, Nat.reduceBEq, reduceIte, Nat.reduceAdd, Nat.reduceLeDiff, Nat.reduceEqDiff, Nat.reduceBneDiff, hb, hk, hl, List.take_of_length_le (Nat.le_of_eq hl)]
  · rw [if_neg hcar] at h
    have n1 : (t == [99, 97, 114]) = false := by simpa [carT] using fun e => hcar (.inl e)
    have n2 : (t == [99, 100, 114]) = false := by simpa [cdrT] using fun e => hcar (.inr e)
    have fin : ∀ (b : Bool), o = .val (truthV b) s → GiveV F kw kc H bs (some (.ret (.agg (truthCs b)), ((H.push (.row [.int .i64 v.kind, .str tx, c2, c3, c4, c5, c6, c7, c8, c9] 0 false (some 75))).push (.row [AV.int .i64 0, .str [], .nilp, .nilp, .int .i64 0, .str [], .nils, .nils, .nilp, .nils] 0 false (some 75))).put (H.n + 1) (.row (truthCs b) 0 false (some 75)))) o := by
      rintro b rfl
      exact give_here (st.boxed (by decide)) (truth_val b) (Keep.boxed st.low)
    unfold truthCs at fin
    by_cases h3 : t = nullT
    · subst h3
      have ho := fin _ (by simpa using h.symm)
      simp -implicitDefEqProofs only [c52, ↓v_lenS, ZZ, Nat.reduceBEq, reduceIte, Nat.reduceAdd, Nat.reduceLeDiff, Nat.reduceEqDiff, Nat.reduceBneDiff, CL, nullT, f2, f3, f4, f5, f6, f7, f8, f9, e63, truthCs, E0, show ([110, 117, 108, 108, 63] == [99, 97, 114] : Bool) = false from rfl, show ([110, 117, 108, 108, 63] == [99, 100, 114] : Bool) = false from rfl]
      exact ho
    have m3 : (t == [110, 117, 108, 108, 63]) = false := by simpa [nullT] using h3
    rw [if_neg h3] at h
    by_cases h4 : t = pairT
    · subst h4
      have ho := fin _ (by simpa using h.symm)
      simp -implicitDefEqProofs only [c52, ↓v_lenS, ZZ, Nat.reduceBEq, reduceIte, Nat.reduceAdd, Nat.reduceLeDiff, Nat.reduceEqDiff, Nat.reduceBneDiff, CL, f2, f3, f4, f5, f6, f7, f8, f9, e63, truthCs, E0, n1, n2, m3, show (pairT == [112, 97, 105, 114, 63] : Bool) = true from rfl]
      exact ho
    have m4 : (t == [112, 97, 105, 114, 63]) = false := by simpa [pairT] using h4
    rw [if_neg h4] at h
    by_cases h5 : t = integerT
    · subst h5
      have ho := fin _ (by simpa using h.symm)
      simp -implicitDefEqProofs only [c52, ↓v_lenS, ZZ, Nat.reduceBEq, reduceIte, Nat.reduceAdd, Nat.reduceLeDiff, Nat.reduceEqDiff, Nat.reduceBneDiff, CL, f2, f3, f4, f5, f6, f7, f8, f9, e63, truthCs, E0, n1, n2, m3, m4, show (integerT == [105, 110, 116, 101, 103, 101, 114, 63] : Bool) = true from rfl]
      exact ho
    have m5 : (t == [105, 110, 116, 101, 103, 101, 114, 63]) = false := by simpa [integerT] using h5
    rw [if_neg h5] at h
    by_cases h6 : t = symbolT
    · subst h6
      have ho := fin _ (by simpa using h.symm)
      simp -implicitDefEqProofs only [c52, ↓v_lenS, ZZ, Nat.reduceBEq, reduceIte, Nat.reduceAdd, Nat.reduceLeDiff, Nat.reduceEqDiff, Nat.reduceBneDiff, CL, f2, f3, f4, f5, f6, f7, f8, f9, e63, truthCs, E0, n1, n2, m3, m4, m5, show (symbolT == [115, 121, 109, 98, 111, 108, 63] : Bool) = true from rfl]
      exact ho
    have m6 : (t == [115, 121, 109, 98, 111, 108, 63]) = false := by simpa [symbolT] using h6
    rw [if_neg h6] at h
    by_cases h7 : t = notT
    · subst h7
      have ho := fin _ (by simpa using h.symm)
      cases hk : (v.kind == 2) with
      | false =>
        have e : v.isFalse = false := by simp [V.isFalse, hk]
        rw [e] at ho
        simp -implicitDefEqProofs only [c52, ↓v_lenS, ZZ, Nat.reduceBEq, reduceIte, Nat.reduceAdd, Nat.reduceLeDiff, Nat.reduceEqDiff, Nat.reduceBneDiff, CL, f2, f3, f4, f5, f6, f7, f8, f9, e63, truthCs, E0, n1, n2, m3, m4, m5, m6, show (notT == [110, 111, 116] : Bool) = true from rfl, hk]
        exact ho
      | true =>
        have e : v.isFalse = (tx == [35, 102]) := by
          have : v.kind = 2 := by simpa using hk
          rw [V.isFalse, hk, htx (by omega)]; rfl
        rw [e] at ho
        simp -implicitDefEqProofs only [c52, ↓v_lenS, ZZ, Nat.reduceBEq, reduceIte, Nat.reduceAdd, Nat.reduceLeDiff, Nat.reduceEqDiff, Nat.reduceBneDiff, CL, f2, f3, f4, f5, f6, f7, f8, f9, e63, truthCs, E0, n1, n2, m3, m4, m5, m6, show (notT == [110, 111, 116] : Bool) = true from rfl, hk]
        exact ho
    have m7 : (t == [110, 111, 116]) = false := by simpa [notT] using h7
    rw [if_neg h7] at h
    by_cases hlt : v.kind < 5
    · have hlen : tx.length ≤ 1000 := by
        rw [htx hlt]
        cases v with
        | atom k t' => obtain ⟨_, _, _, _, _, _, _, _, _, _, _, hn, _⟩ := hv; exact hn.1.1
        | pair p q => simp [V.text]
        | fn e env g => simp [V.text]
      have hl2 : [101, 114, 114, 111, 114, 32].length + tx.length ≤ 4611686018427387904 := by simp; omega
      simp only [if_pos hlt, Option.some.injEq] at h
      subst h
      have ht2 := htx hlt
      simp -implicitDefEqProofs only [c52, ↓v_lenS, ZZ, Nat.reduceBEq, reduceIte, Nat.reduceAdd, Nat.reduceLeDiff, Nat.reduceEqDiff, Nat.reduceBneDiff, CL, f2, f3, f4, f5, f6, f7, f8, f9, e61, n1, n2, m3, m4, m5, m6, m7, hlt, show 6 + tx.length ≤ 4611686018427387904 by omega]
      rw [← ht2]
      exact ⟨_, rfl, st2.ends, k2⟩
    · simp only [if_neg hlt, Option.some.injEq] at h
      subst h
      simp -implicitDefEqProofs only [c52, ↓v_lenS, ZZ, Nat.reduceBEq, reduceIte, Nat.reduceAdd, Nat.reduceLeDiff, Nat.reduceEqDiff, Nat.reduceBneDiff, CL, f2, f3, f4, f5, f6, f7, f8, f9, e61, n1, n2, m3, m4, m5, m6, m7, hlt]
      exact ⟨_, rfl, st2.ends, k2⟩
end Go.Lite

/-
  A primitive of two.
-/
namespace Go.Lite
open Go Go.Proofs
theorem Ev.opt {α : Type} {x : Option α} {p : α → Nat → Prop} (h : ∀ a, x = some a → Ev (p a)) : Ev fun n => ∀ a, x = some a → p a n := by
  cases x with
  | none => exact Ev.of fun n a e => by cases e
  | some a => exact (h a rfl).mono fun n hn b e => by cases e; exact hn
theorem Ev.val {o : O V} {p : V → S → Nat → Prop} (h : ∀ v s, o = .val v s → Ev (p v s)) : Ev fun n => ∀ v s, o = .val v s → p v s n := by
  cases o with
  | stop k t s => exact Ev.of fun n v s e => by cases e
  | val v s => exact (h v s rfl).mono fun n hn w s' e => by cases e; exact hn
theorem EvalOk.get {F m : Nat} (ih : EvalOk F m) (e : X) (env : Env) (s : S) (ht : e.tame) : Ev fun n => ∀ p, evalA F m e env s = some p → ∀ kw kc H bs ev, St F kw kc H bs s 1 → EnvR H bs env ev → GiveV F kw kc H bs (callN P5 n 27 [.ptr (.new kw) 0, e.v, ev] H) p :=
  Ev.opt fun p hp => ih e env s p ht hp
theorem loop3 {call : CallF} {n m : Nat} {a : SCode} {fr : Fr} {H : Heap} {KK : Ex → Fr → Heap → R} : loopR call n a (m + 3) fr H KK = a.run call n fr H (loopK call n a (m + 2) KK) := rfl
theorem loop2 {call : CallF} {n m : Nat} {a : SCode} {fr : Fr} {H : Heap} {KK : Ex → Fr → Heap → R} : loopR call n a (m + 2) fr H KK = a.run call n fr H (loopK call n a (m + 1) KK) := rfl
theorem num_stop {op a b : Str} {s s' : S} {k : Int} {t : Str} (h : numsA op a b s = .stop k t s') : s' = s := by
  unfold numsA numA at h
  simp only [] at h
  repeat' split at h
  all_goals first
    | (cases h; done)
    | (simp only [O.stop.injEq] at h; exact h.2.2.symm)
noncomputable def twoF (F n : Nat) (t : Str) (a b : X) (env : Env) (s : S) : Option (O V) :=
  if t = consP then some (.val (.pair (argA a env s).1 (argA b env (argA a env s).2).1) (argA b env (argA a env s).2).2)
  else (evalA F n a env s).bind fun r => r.bind fun v s =>
    if t = seqT then evalA F n b env s
    else if t = eqP then (evalA F n b env s).bind fun r => r.bind fun w s => some (.val (truthV (decide (v.kind < 5) && (v.kind == w.kind && v.text == w.text))) s)
    else if v.kind ≠ 1 then some (.stop 2 [110, 117, 109, 98, 101, 114] s)
    else (evalA F n b env s).bind fun r => r.bind fun w s => if w.kind ≠ 1 then some (.stop 2 [110, 117, 109, 98, 101, 114] s) else some (numsA t v.text w.text s)
theorem ValR.num {H : Heap} {bs : List Nat} {v : V} {cs : List AV} (h : ValR H bs v cs) (hk : v.kind = 1) : ∃ z : Int, z.natAbs < 10 ^ 200 ∧ v.text = decZ z := by
  cases v with
  | atom k t => obtain ⟨_, _, _, _, _, _, _, _, _, _, _, hn, _⟩ := h; exact hn.2 hk
  | pair p q => simp [V.kind] at hk
  | fn e env g => simp [V.kind] at hk
theorem GiveV.more {F kw kc : Nat} {H : Heap} {bs x : List Nat} {r : R} {o : O V} (h : GiveV F kw kc H (bs ++ x) r o) : GiveV F kw kc H bs r o := by
  cases o with
  | val v s =>
    obtain ⟨cs, H', y, h1, h2, h3, h4⟩ := h
    rw [List.append_assoc] at h2 h3
    exact ⟨cs, H', x ++ y, h1, h2, h3, h4⟩
  | stop a t s => exact h
theorem two_boxes {F kw kc : Nat} {H : Heap} {bs : List Nat} {s : S} {e : Nat} {a b c d : List AV} (st : St F kw kc H bs s e) :
    St F kw kc ((((H.push (.row a 0 false (some 75))).push (.row b 0 false (some 75))).put H.n (.row c 0 false (some 75))).put (H.n + 1) (.row d 0 false (some 75))) bs s e ∧
    Keep H ((((H.push (.row a 0 false (some 75))).push (.row b 0 false (some 75))).put H.n (.row c 0 false (some 75))).put (H.n + 1) (.row d 0 false (some 75))) ∧
    ((((H.push (.row a 0 false (some 75))).push (.row b 0 false (some 75))).put H.n (.row c 0 false (some 75))).put (H.n + 1) (.row d 0 false (some 75))).t.get H.n = some (.row c 0 false (some 75)) ∧
    ((((H.push (.row a 0 false (some 75))).push (.row b 0 false (some 75))).put H.n (.row c 0 false (some 75))).put (H.n + 1) (.row d 0 false (some 75))).t.get (H.n + 1) = some (.row d 0 false (some 75)) := by
  have g0 : ((H.push (.row a 0 false (some 75))).push (.row b 0 false (some 75))).t.get H.n = some (.row a 0 false (some 75)) := by
    rw [h_get, if_neg (by rw [h_n]; omega), h_get, if_pos rfl]
  have g1 : (((H.push (.row a 0 false (some 75))).push (.row b 0 false (some 75))).put H.n (.row c 0 false (some 75))).t.get (H.n + 1) = some (.row b 0 false (some 75)) := by
    rw [h_gput, if_neg (by omega), h_get, if_pos (by rw [h_n])]
  refine ⟨(st.push.push.box g0 (by decide)).box g1 (by decide), ?_, ?_, ?_⟩
  · exact (((HKeep.push st.low).pushed st.low).own st.low (Nat.le_refl _) (by rw [h_n, h_n]; omega)).own st.low (by omega) (by show H.n + 1 < H.n + 1 + 1; omega)
  · rw [h_gput, if_neg (by omega), h_gput, if_pos rfl]
  · rw [h_gput, if_pos rfl]
theorem lt02 : decide ((0 : Int) < 2) = true := rfl
theorem lt12 : decide ((1 : Int) < 2) = true := rfl
theorem n02 : (0 : Nat) < 2 := by decide
theorem n12 : (1 : Nat) < 2 := by decide
theorem put_ne {H : Heap} {j k : Nat} {o ob : Obj} (h : ¬ j = k) (g : H.t.get j = some o) : (H.put k ob).t.get j = some o := by rw [h_gput, if_neg h]; exact g
theorem wrap01 : IntKind.i64.wrap (0 + 1) = 1 := by decide
theorem wrap11 : IntKind.i64.wrap (1 + 1) = 2 := by decide
theorem lt22 : decide ((2 : Int) < 2) = false := rfl
set_option maxHeartbeats 8000000 in
theorem two44 {F m : Nat} (ih : EvalOk F m) (k : Int) (t : Str) (ns : List Str) (a b : X) (env : Env) (s : S) (o : O V) (ha : a.tame) (hb : b.tame) (h : twoF F m t a b env s = some o) :
    Ev fun n => ∀ kw kc H bs ev, St F kw kc H bs s 0 → EnvR H bs env ev → GiveV F kw kc H bs (callN P5 n 51 [.ptr (.new kw) 0, .agg [.int .i64 k, .str t, vStrs ns, vXs [a, b]], ev] H) o := by
  have hE2 : Ev fun n => ∀ p, evalA F m a env s = some p → ∀ v s1, p = .val v s1 → ∀ q, evalA F m b env s1 = some q → ∀ kw kc H bs ev, St F kw kc H bs s1 1 → EnvR H bs env ev → GiveV F kw kc H bs (callN P5 n 27 [.ptr (.new kw) 0, b.v, ev] H) q :=
    Ev.opt fun p hp => Ev.val fun v s1 _ => ih.get b env s1 hb
  have hE3 : Ev fun n => ∀ p, evalA F m a env s = some p → ∀ v s1, p = .val v s1 → ∀ q, evalA F m b env s1 = some q → ∀ w s2, q = .val w s2 → ∀ x y : Int, v.text = decZ x → w.text = decZ y → x.natAbs < 10 ^ 200 → y.natAbs < 10 ^ 200 → ∀ H, callN P5 n 80 [.str t, .str v.text, .str w.text] H = outV (numsA t v.text w.text s2) H :=
    Ev.opt fun p hp => Ev.val fun v s1 _ => Ev.opt fun q hq => Ev.val fun w s2 _ => by
      by_cases hx : ∃ x y : Int, v.text = decZ x ∧ w.text = decZ y ∧ x.natAbs < 10 ^ 200 ∧ y.natAbs < 10 ^ 200
      · obtain ⟨x, y, h1, h2, h3, h4⟩ := hx
        refine (num64 t x y h3 h4 s2).mono fun n hn x' y' e1 e2 _ _ => ?_
        rw [h1, h2]; exact hn
      · exact Ev.of fun n x y h1 h2 h3 h4 => absurd ⟨x, y, h1, h2, h3, h4⟩ hx
  refine Ev.succ (((ih.get a env s ha).and (hE2.and (hE3.and ((argument42 a env ha).and ((argument42 b env hb).and (is63.and (stop61.and (Ev.ge 6)))))))).mono fun n hn kw kc H bs ev st he => ?_)
  obtain ⟨eA, eB, eN, e42a, e42b, e63, e61, hn⟩ := hn
  rw [callN_code (P := P5) (sf := c51) rfl (code51 _ _) rfl rfl]
  have fe := he.flat
  obtain ⟨ka, ta, na, la⟩ := a
  obtain ⟨kb, tb, nb, lb⟩ := b
  have k2 : Keep H ((H.push (.row [.int .i64 k, .str t, vStrs ns, vXs [.mk ka ta na la, .mk kb tb nb lb]] 0 false (some 28))).push (.row [AV.int .i64 0, .str [], .nilp, .nilp, .int .i64 0, .str [], .nils, .nils, .nilp, .nils] 0 false (some 75))) := (HKeep.push st.low).pushed st.low
  have st2 := (st.push (ob := .row [.int .i64 k, .str t, vStrs ns, vXs [.mk ka ta na la, .mk kb tb nb lb]] 0 false (some 28))).push (ob := .row [AV.int .i64 0, .str [], .nilp, .nilp, .int .i64 0, .str [], .nils, .nils, .nilp, .nils] 0 false (some 75))
  have he2 := he.keep (x := []) k2.stay
  rw [List.append_nil] at he2
  have g0 : ((H.push (.row [.int .i64 k, .str t, vStrs ns, vXs [.mk ka ta na la, .mk kb tb nb lb]] 0 false (some 28))).push (.row [AV.int .i64 0, .str [], .nilp, .nilp, .int .i64 0, .str [], .nils, .nils, .nilp, .nils] 0 false (some 75))).t.get H.n = some (.row [.int .i64 k, .str t, vStrs ns, vXs [.mk ka ta na la, .mk kb tb nb lb]] 0 false (some 28)) := by
    rw [h_get, if_neg (by rw [h_n]; omega), h_get, if_pos rfl]
  have g1 : ((H.push (.row [.int .i64 k, .str t, vStrs ns, vXs [.mk ka ta na la, .mk kb tb nb lb]] 0 false (some 28))).push (.row [AV.int .i64 0, .str [], .nilp, .nilp, .int .i64 0, .str [], .nils, .nils, .nilp, .nils] 0 false (some 75))).t.get (H.n + 1) = some (.row [AV.int .i64 0, .str [], .nilp, .nilp, .int .i64 0, .str [], .nils, .nils, .nilp, .nils] 0 false (some 75)) := by rw [h_get, if_pos (by rw [h_n])]
  have hn2 : ((H.push (.row [.int .i64 k, .str t, vStrs ns, vXs [.mk ka ta na la, .mk kb tb nb lb]] 0 false (some 28))).push (.row [AV.int .i64 0, .str [], .nilp, .nilp, .int .i64 0, .str [], .nils, .nils, .nilp, .nils] 0 false (some 75))).n = H.n + 2 := by rw [h_n, h_n]
  have ia : iaddrV 4 (vXs [.mk ka ta na la, .mk kb tb nb lb]) 0 = some (.ptr (.val (X.mk ka ta na la).cells) 0) := iaddr_vXs rfl
  have ib : iaddrV 4 (vXs [.mk ka ta na la, .mk kb tb nb lb]) 1 = some (.ptr (.val (X.mk kb tb nb lb).cells) 0) := iaddr_vXs rfl
  simp only [X.v_mk] at eA eB e42a e42b
  unfold twoF at h
  by_cases hc : t = consP
  · subst hc
    simp only [if_true, Option.some.injEq] at h
    subst h
    obtain ⟨cv, H3, q1, x3, q2, q3, q4⟩ := e42a F kw kc 0 _ bs ev s st2 he2
    have q4' := k2.trans q4
    have he3 := he.keep (x := x3) q4'.stay
    obtain ⟨cw, H4, r1, x4, r2, r3, r4⟩ := e42b F kw kc 0 _ _ ev _ q2 he3
    have g03 := q4.get _ _ g0 (quiet (by decide) (by decide))
    have g14 := r4.get _ _ (q4.get _ _ g1 (quiet (by decide) (by decide))) (quiet (by decide) (by decide))
    have fcv : cv.flat = true := by obtain ⟨_, _, rfl⟩ := q3; rfl
    have fcw : cw.flat = true := by obtain ⟨_, _, rfl⟩ := r3; rfl
    simp -implicitDefEqProofs only [c51, ↓v_lenS, ZZ, Nat.reduceBEq, reduceIte, Nat.reduceAdd, Nat.reduceLeDiff, Nat.reduceEqDiff, Nat.reduceSub, Nat.reduceMul, Nat.reduceDiv, Nat.reduceBneDiff, CL, Int.reduceLE, Int.reduceToNat, show (consP == [99, 111, 110, 115] : Bool) = true from rfl, ia, ib, X.cells_mk, q1, g03, r1, g14, fcv, fcw]
    refine ⟨_, _, x3 ++ x4, rfl, ⟨cv, cw, rfl, ?_, ?_⟩, ?_, ((k2.trans (q4.trans r4)).own st.low (by omega) (r2.low.lt g14))⟩
    · rw [← List.append_assoc]; exact q3.more
    · rw [← List.append_assoc]; exact r3
    · rw [← List.append_assoc]; exact r2.box g14 (by decide)
  rw [if_neg hc] at h
  have nc : (t == [99, 111, 110, 115]) = false := by simpa [consP] using hc
  obtain ⟨p, hp, h⟩ := Option.bind_eq_some_iff.1 h
  have hA := eA p hp kw kc _ bs ev (st2.weak (by omega)) he2
  cases p with
  | stop kk tt s' =>
    simp only [O.bind, Option.some.injEq] at h
    subst h
    obtain ⟨H', q1, q2, q3⟩ := hA
    have fin : GiveV F kw kc H bs (some (.panic (stopV kk tt), H')) (.stop kk tt s') := ⟨H', rfl, q2, k2.trans q3⟩
    by_cases hs : t = seqT
    · subst hs
      simp -implicitDefEqProofs only [c51, ↓v_lenS, ZZ, Nat.reduceBEq, reduceIte, Nat.reduceAdd, Nat.reduceLeDiff, Nat.reduceEqDiff, Nat.reduceSub, Nat.reduceMul, Nat.reduceDiv, Nat.reduceBneDiff, CL, Int.reduceLE, Int.reduceToNat, nc, show (seqT == [115, 101, 113] : Bool) = true from rfl, ia, ib, X.cells_mk, q1]
      exact fin
    have nse : (t == [115, 101, 113]) = false := by simpa [seqT] using hs
    by_cases hq : t = eqP
    · subst hq
      simp -implicitDefEqProofs only [c51, ↓v_lenS, ZZ, Nat.reduceBEq, reduceIte, Nat.reduceAdd, Nat.reduceLeDiff, Nat.reduceEqDiff, Nat.reduceSub, Nat.reduceMul, Nat.reduceDiv, Nat.reduceBneDiff, CL, Int.reduceLE, Int.reduceToNat, nc, nse, show (eqP == [101, 113, 63] : Bool) = true from rfl, ia, ib, X.cells_mk, q1]
      exact fin
    have nq : (t == [101, 113, 63]) = false := by simpa [eqP] using hq
    have st3 := st2.push (ob := .row ([AV.int .i64 0, .str [], .nilp, .nilp, .int .i64 0, .str [], .nils, .nils, .nilp, .nils] ++ [AV.int .i64 0, .str [], .nilp, .nilp, .int .i64 0, .str [], .nils, .nils, .nilp, .nils]) 0 false (some 162))
    have k3 : Keep H _ := k2.pushed st.low (ob := .row ([AV.int .i64 0, .str [], .nilp, .nilp, .int .i64 0, .str [], .nils, .nils, .nilp, .nils] ++ [AV.int .i64 0, .str [], .nilp, .nilp, .int .i64 0, .str [], .nils, .nils, .nilp, .nils]) 0 false (some 162))
    have he3 := he.keep (x := []) k3.stay
    rw [List.append_nil] at he3
    have hA3 := eA _ hp kw kc _ bs ev (st3.weak (by omega)) he3
    obtain ⟨H', q1, q2, q3⟩ := hA3
    obtain ⟨m', rfl⟩ : ∃ m', n = m' + 3 := ⟨n - 3, by omega⟩
    simp only [List.cons_append, List.nil_append] at q1 q3 k3
    simp -implicitDefEqProofs only [c51, c51_l0, ↓v_lenS, ZZ, Nat.reduceBEq, reduceIte, Nat.reduceAdd, Nat.reduceLeDiff, Nat.reduceEqDiff, Nat.reduceSub, Nat.reduceMul, Nat.reduceDiv, Nat.reduceBneDiff, CL, Int.reduceLE, Int.reduceToNat, nc, nse, nq, loop3, lt02, ia, ib, X.cells_mk, q1]
    exact ⟨H', rfl, q2, k3.trans q3⟩
  | val v s1 =>
    have h : (if t = seqT then evalA F m (.mk kb tb nb lb) env s1 else if t = eqP then (evalA F m (.mk kb tb nb lb) env s1).bind fun r => r.bind fun w s => some (.val (truthV (decide (v.kind < 5) && (v.kind == w.kind && v.text == w.text))) s)
      else if v.kind ≠ 1 then some (.stop 2 [110, 117, 109, 98, 101, 114] s1)
      else (evalA F m (.mk kb tb nb lb) env s1).bind fun r => r.bind fun w s => if w.kind ≠ 1 then some (.stop 2 [110, 117, 109, 98, 101, 114] s) else some (numsA t v.text w.text s)) = some o := h
    by_cases hs : t = seqT
    · subst hs
      rw [if_pos rfl] at h
      obtain ⟨cs, H', x, q1, q2, q3, q4⟩ := hA
      have k3 := k2.trans q4
      have he3 := he.keep (x := x) k3.stay
      have hB := (eB _ hp v s1 rfl o h kw kc H' (bs ++ x) ev (q3.weak (by omega)) he3).more
      have g0' := q4.get _ _ g0 (quiet (by decide) (by decide))
      have g1' := q4.get _ _ g1 (quiet (by decide) (by decide))
      simp -implicitDefEqProofs only [c51, ↓v_lenS, ZZ, Nat.reduceBEq, reduceIte, Nat.reduceAdd, Nat.reduceLeDiff, Nat.reduceEqDiff, Nat.reduceSub, Nat.reduceMul, Nat.reduceDiv, Nat.reduceBneDiff, CL, Int.reduceLE, Int.reduceToNat, nc, show (seqT == [115, 101, 113] : Bool) = true from rfl, ia, ib, X.cells_mk, q1, g0']
      refine tail_store (k := H.n + 1) hB k3 st.low (by omega) g1' rfl rfl (by decide) ?_
      intro fr' H' cs hb hk hl
      simp -implicitDefEqProofs only [↓v_lenS, ZZ, Nat.reduceBEq, reduceIte, Nat.reduceAdd, Nat.reduceLeDiff, Nat.reduceEqDiff, Nat.reduceSub, Nat.reduceMul, Nat.reduceDiv, Nat.reduceBneDiff, hb, hk, hl, List.take_of_length_le (Nat.le_of_eq hl)]
    rw [if_neg hs] at h
    have nse : (t == [115, 101, 113]) = false := by simpa [seqT] using hs
    by_cases hq : t = eqP
    · subst hq
      rw [if_pos rfl] at h
      obtain ⟨q, hqq, h⟩ := Option.bind_eq_some_iff.1 h
      obtain ⟨cs, H', x, q1, q2, q3, q4⟩ := hA
      have k3 := k2.trans q4
      obtain ⟨tx, c2, c3, c4, c5, c6, c7, c8, c9, rfl, htx, _, _, ⟨f2, f3, f4, f5⟩, ⟨f6, f7, f8, f9⟩⟩ := q2.ten
      have g0' := q4.get _ _ g0 (quiet (by decide) (by decide))
      have g1' := q4.get _ _ g1 (quiet (by decide) (by decide))
      have hn3 : H.n + 2 ≤ H'.n := by have := k3.n; have := q4.n; rw [hn2] at this; omega
      obtain ⟨t1, t2, t3, t4⟩ := two_boxes (a := [AV.int .i64 0, .str [], .nilp, .nilp, .int .i64 0, .str [], .nils, .nils, .nilp, .nils]) (b := [AV.int .i64 0, .str [], .nilp, .nilp, .int .i64 0, .str [], .nils, .nils, .nilp, .nils]) (c := [.int .i64 v.kind, .str tx, c2, c3, c4, c5, c6, c7, c8, c9]) (d := [AV.int .i64 0, .str [], .nilp, .nilp, .int .i64 0, .str [], .nils, .nils, .nilp, .nils]) q3
      have k4 := k3.trans t2
      have he4 := he.keep (x := x) k4.stay
      have hB := eB _ hp v s1 rfl q hqq kw kc _ (bs ++ x) ev (t1.weak (by omega)) he4
      have h9 : ¬ H'.n = H'.n + 1 := by omega
      have h8 : ¬ H'.n + 1 = H'.n := by omega
      have h7 : ¬ H.n + 1 = H'.n + 1 := by omega
      have h6 : ¬ H.n = H'.n := by omega
      have h5 : ¬ H.n = H'.n + 1 := by omega
      have h4 : ¬ H'.n = H.n := by omega
      have h3 : ¬ H'.n + 1 = H.n := by omega
      have h2 : ¬ H.n + 1 = H'.n := by omega
      cases q with
      | stop kk tt s2 =>
        simp only [O.bind, Option.some.injEq] at h
        subst h
        obtain ⟨H4, r1, r2, r3⟩ := hB
        simp -implicitDefEqProofs only [c51, ↓v_lenS, ZZ, Nat.reduceBEq, reduceIte, Nat.reduceAdd, Nat.reduceLeDiff, Nat.reduceEqDiff, Nat.reduceSub, Nat.reduceMul, Nat.reduceDiv, Nat.reduceBneDiff, CL, Int.reduceLE, Int.reduceToNat, nc, nse, show (eqP == [101, 113, 63] : Bool) = true from rfl, ia, ib, X.cells_mk, q1, g0', h2, h3, h4, h5, h6, h7, h8, h9, f2, f3, f4, f5, f6, f7, f8, f9, r1]
        exact ⟨H4, rfl, r2, k4.trans r3⟩
      | val w s2 =>
        simp only [O.bind, Option.some.injEq] at h
        subst h
        obtain ⟨cw, H4, y, r1, r2, r3, r4⟩ := hB
        obtain ⟨ty, d2, d3, d4, d5, d6, d7, d8, d9, rfl, hty, _, _, ⟨e2, e3, e4, e5⟩, ⟨e6, e7, e8, e9⟩⟩ := r2.ten
        have g7 := r4.get _ _ t3 (quiet (by decide) (by decide))
        have g8 := r4.get _ _ t4 (quiet (by decide) (by decide))
        have g6 := r4.get _ _ (t2.get _ _ g1' (quiet (by decide) (by decide))) (quiet (by decide) (by decide))
        have k5 := k4.trans r4
        obtain ⟨B, hBo⟩ : ∃ B, B = (decide (v.kind < 5) && (v.kind == w.kind && v.text == w.text)) := ⟨_, rfl⟩
        rw [← hBo]
        have fin : ∀ b : Bool, b = (decide (v.kind < 5) && (v.kind == w.kind && v.text == w.text)) → GiveV F kw kc H bs (some (.ret (.agg (truthCs b)), (H4.put (H'.n + 1) (.row [.int .i64 w.kind, .str ty, d2, d3, d4, d5, d6, d7, d8, d9] 0 false (some 75))).put (H.n + 1) (.row (truthCs b) 0 false (some 75)))) (.val (truthV B) s2) := by
          intro b hb
          rw [hBo, ← hb]
          refine ⟨_, _, x ++ y, rfl, truth_val b, ?_, ?_⟩
          · rw [← List.append_assoc]
            exact (r3.box g8 (by decide)).box (k := H.n + 1) (t := 75) (by rw [h_gput, if_neg h7]; exact g6) (by decide)
          · exact (k5.own st.low (by omega) (r3.low.lt g8)).own st.low (by omega) (by show H.n + 1 < H4.n; have := r3.low.lt g6; omega)
        unfold truthCs at fin
        simp -implicitDefEqProofs only [c51, ↓v_lenS, ZZ, Nat.reduceBEq, reduceIte, Nat.reduceAdd, Nat.reduceLeDiff, Nat.reduceEqDiff, Nat.reduceSub, Nat.reduceMul, Nat.reduceDiv, Nat.reduceBneDiff, CL, Int.reduceLE, Int.reduceToNat, nc, nse, show (eqP == [101, 113, 63] : Bool) = true from rfl, ia, ib, X.cells_mk, q1, g0', h2, h3, h4, h5, h6, h7, h8, h9, f2, f3, f4, f5, f6, f7, f8, f9, r1]
        by_cases hlt : v.kind < 5
        · have dl : decide (v.kind < 5) = true := decide_eq_true hlt
          have ex := htx hlt
          cases hk : (v.kind == w.kind) with
          | false =>
            have ho := fin false (by rw [dl, hk]; rfl)
            simp -implicitDefEqProofs only [↓v_lenS, ZZ, Nat.reduceBEq, reduceIte, Nat.reduceAdd, Nat.reduceLeDiff, Nat.reduceEqDiff, Nat.reduceSub, Nat.reduceMul, Nat.reduceDiv, Nat.reduceBneDiff, CL, dl, hk, g6, g7, g8, h2, h3, h4, h5, h6, h7, h8, h9, f2, f3, f4, f5, f6, f7, f8, f9, e2, e3, e4, e5, e6, e7, e8, e9, e63, truthCs, E0]
            exact ho
          | true =>
            have ey := hty (by have : v.kind = w.kind := by simpa using hk
                               omega)
            have ho := fin (tx == ty) (by rw [dl, hk, ex, ey]; rfl)
            simp -implicitDefEqProofs only [↓v_lenS, ZZ, Nat.reduceBEq, reduceIte, Nat.reduceAdd, Nat.reduceLeDiff, Nat.reduceEqDiff, Nat.reduceSub, Nat.reduceMul, Nat.reduceDiv, Nat.reduceBneDiff, CL, dl, hk, g6, g7, g8, h2, h3, h4, h5, h6, h7, h8, h9, f2, f3, f4, f5, f6, f7, f8, f9, e2, e3, e4, e5, e6, e7, e8, e9, e63, truthCs, E0]
            exact ho
        · have dl : decide (v.kind < 5) = false := decide_eq_false hlt
          have ho := fin false (by rw [dl]; rfl)
          simp -implicitDefEqProofs only [↓v_lenS, ZZ, Nat.reduceBEq, reduceIte, Nat.reduceAdd, Nat.reduceLeDiff, Nat.reduceEqDiff, Nat.reduceSub, Nat.reduceMul, Nat.reduceDiv, Nat.reduceBneDiff, CL, dl, g6, g7, g8, h2, h3, h4, h5, h6, h7, h8, h9, f2, f3, f4, f5, f6, f7, f8, f9, e2, e3, e4, e5, e6, e7, e8, e9, e63, truthCs, E0]
          exact ho
    rw [if_neg hq] at h
    have nq : (t == [101, 113, 63]) = false := by simpa [eqP] using hq
    clear hA
    have st3 := st2.push (ob := .row ([AV.int .i64 0, .str [], .nilp, .nilp, .int .i64 0, .str [], .nils, .nils, .nilp, .nils] ++ [AV.int .i64 0, .str [], .nilp, .nilp, .int .i64 0, .str [], .nils, .nils, .nilp, .nils]) 0 false (some 162))
    have k3 : Keep H _ := k2.pushed st.low (ob := .row ([AV.int .i64 0, .str [], .nilp, .nilp, .int .i64 0, .str [], .nils, .nils, .nilp, .nils] ++ [AV.int .i64 0, .str [], .nilp, .nilp, .int .i64 0, .str [], .nils, .nils, .nilp, .nils]) 0 false (some 162))
    have he3 := he.keep (x := []) k3.stay
    rw [List.append_nil] at he3
    have hA3 := eA _ hp kw kc _ bs ev (st3.weak (by omega)) he3
    have g03 := (HKeep.push (X := loud) st2.low (ob := .row ([AV.int .i64 0, .str [], .nilp, .nilp, .int .i64 0, .str [], .nils, .nils, .nilp, .nils] ++ [AV.int .i64 0, .str [], .nilp, .nilp, .int .i64 0, .str [], .nils, .nils, .nilp, .nils]) 0 false (some 162))).get _ _ g0 (quiet (by decide) (by decide))
    have g13 := (HKeep.push (X := loud) st2.low (ob := .row ([AV.int .i64 0, .str [], .nilp, .nilp, .int .i64 0, .str [], .nils, .nils, .nilp, .nils] ++ [AV.int .i64 0, .str [], .nilp, .nilp, .int .i64 0, .str [], .nils, .nils, .nilp, .nils]) 0 false (some 162))).get _ _ g1 (quiet (by decide) (by decide))
    have g23 : (((H.push (.row [.int .i64 k, .str t, vStrs ns, vXs [.mk ka ta na la, .mk kb tb nb lb]] 0 false (some 28))).push (.row [AV.int .i64 0, .str [], .nilp, .nilp, .int .i64 0, .str [], .nils, .nils, .nilp, .nils] 0 false (some 75))).push (.row ([AV.int .i64 0, .str [], .nilp, .nilp, .int .i64 0, .str [], .nils, .nils, .nilp, .nils] ++ [AV.int .i64 0, .str [], .nilp, .nilp, .int .i64 0, .str [], .nils, .nils, .nilp, .nils]) 0 false (some 162))).t.get (H.n + 2) = some (.row ([AV.int .i64 0, .str [], .nilp, .nilp, .int .i64 0, .str [], .nils, .nils, .nilp, .nils] ++ [AV.int .i64 0, .str [], .nilp, .nilp, .int .i64 0, .str [], .nils, .nils, .nilp, .nils]) 0 false (some 162)) := by rw [h_get, if_pos (by rw [hn2])]
    obtain ⟨cs, H', x, q1, q2, q3, q4⟩ := hA3
    obtain ⟨tx, c2, c3, c4, c5, c6, c7, c8, c9, rfl, htx, _, _, ⟨f2, f3, f4, f5⟩, ⟨f6, f7, f8, f9⟩⟩ := q2.ten
    have g0' := q4.get _ _ g03 (quiet (by decide) (by decide))
    have g1' := q4.get _ _ g13 (quiet (by decide) (by decide))
    have g2' := q4.get _ _ g23 (quiet (by decide) (by decide))
    obtain ⟨m', rfl⟩ : ∃ m', n = m' + 3 := ⟨n - 3, by omega⟩
    simp only [List.cons_append, List.nil_append] at q1 q4 k3 g2'
    have k4 := k3.trans q4
    have hl2 := q3.low.lt g2'
    have d1 : ¬ H.n + 2 = H.n := by omega
    have d2 : ¬ H.n = H.n + 2 := by omega
    have d3 : ¬ H.n + 1 = H.n + 2 := by omega
    have d4 : ¬ H.n + 2 = H.n + 1 := by omega
    by_cases hv1 : v.kind ≠ 1
    · rw [if_pos hv1] at h
      obtain rfl := Option.some.inj h
      have hb : (v.kind != 1) = true := by simpa using hv1
      simp -implicitDefEqProofs only [c51, c51_l0, ↓v_lenS, ZZ, Nat.reduceBEq, reduceIte, Nat.reduceAdd, Nat.reduceLeDiff, Nat.reduceEqDiff, Nat.reduceSub, Nat.reduceMul, Nat.reduceDiv, Nat.reduceBneDiff, CL, Int.reduceLE, Int.reduceToNat, nc, nse, nq, loop3, lt02, n02, ia, ib, X.cells_mk, q1, g0', g2', d1, d2, d3, d4, hb, f2, f3, f4, f5, f6, f7, f8, f9, e61]
      exact ⟨_, rfl, (q3.box g2' (by decide)).ends, k4.own st.low (by omega) hl2⟩
    rw [if_neg hv1] at h
    have hv1 : v.kind = 1 := by simpa using hv1
    have hb : (v.kind != 1) = false := by simp [hv1]
    obtain ⟨q, hqq, h⟩ := Option.bind_eq_some_iff.1 h
    have k5 : Keep H _ := k4.own st.low (by omega) hl2 (ob := .row [.int .i64 v.kind, .str tx, c2, c3, c4, c5, c6, c7, c8, c9, .int .i64 0, .str [], .nilp, .nilp, .int .i64 0, .str [], .nils, .nils, .nilp, .nils] 0 false (some 162))
    have st5 := q3.box g2' (by decide) (ob := .row [.int .i64 v.kind, .str tx, c2, c3, c4, c5, c6, c7, c8, c9, .int .i64 0, .str [], .nilp, .nilp, .int .i64 0, .str [], .nils, .nils, .nilp, .nils] 0 false (some 162))
    have g05 := put_ne (ob := .row [.int .i64 v.kind, .str tx, c2, c3, c4, c5, c6, c7, c8, c9, .int .i64 0, .str [], .nilp, .nilp, .int .i64 0, .str [], .nils, .nils, .nilp, .nils] 0 false (some 162)) d2 g0'
    have g15 := put_ne (ob := .row [.int .i64 v.kind, .str tx, c2, c3, c4, c5, c6, c7, c8, c9, .int .i64 0, .str [], .nilp, .nilp, .int .i64 0, .str [], .nils, .nils, .nilp, .nils] 0 false (some 162)) d3 g1'
    have g25 : (H'.put (H.n + 2) (.row [.int .i64 v.kind, .str tx, c2, c3, c4, c5, c6, c7, c8, c9, .int .i64 0, .str [], .nilp, .nilp, .int .i64 0, .str [], .nils, .nils, .nilp, .nils] 0 false (some 162))).t.get (H.n + 2) = some (.row [.int .i64 v.kind, .str tx, c2, c3, c4, c5, c6, c7, c8, c9, .int .i64 0, .str [], .nilp, .nilp, .int .i64 0, .str [], .nils, .nils, .nilp, .nils] 0 false (some 162)) := by rw [h_gput, if_pos rfl]
    have he5 := he.keep (x := x) k5.stay
    have hB := eB _ hp v s1 rfl q hqq kw kc _ (bs ++ x) ev (st5.weak (by omega)) he5
    cases q with
    | stop kk tt s2 =>
      simp only [O.bind, Option.some.injEq] at h
      subst h
      obtain ⟨H4, r1, r2, r3⟩ := hB
      simp -implicitDefEqProofs only [c51, c51_l0, ↓v_lenS, ZZ, Nat.reduceBEq, reduceIte, Nat.reduceAdd, Nat.reduceLeDiff, Nat.reduceEqDiff, Nat.reduceSub, Nat.reduceMul, Nat.reduceDiv, Nat.reduceBneDiff, CL, Int.reduceLE, Int.reduceToNat, nc, nse, nq, loop3, loop2, lt02, lt12, n02, n12, ia, ib, X.cells_mk, q1, g0', g2', d1, d2, d3, d4, hb, f2, f3, f4, f5, f6, f7, f8, f9, r1, wrap01]
      exact ⟨H4, rfl, r2, k5.trans r3⟩
    | val w s2 =>
      obtain ⟨cw, H4, y, r1, r2, r3, r4⟩ := hB
      obtain ⟨ty, e2, e3, e4, e5, e6, e7, e8, e9, rfl, hty, _, _, ⟨j2, j3, j4, j5⟩, ⟨j6, j7, j8, j9⟩⟩ := r2.ten
      have g06 := r4.get _ _ g05 (quiet (by decide) (by decide))
      have g16 := r4.get _ _ g15 (quiet (by decide) (by decide))
      have g26 := r4.get _ _ g25 (quiet (by decide) (by decide))
      have k6 := k5.trans r4
      have hl3 := r3.low.lt g26
      have h : (if w.kind ≠ 1 then some (.stop 2 [110, 117, 109, 98, 101, 114] s2) else some (numsA t v.text w.text s2)) = some o := h
      by_cases hw1 : w.kind ≠ 1
      · rw [if_pos hw1] at h
        obtain rfl := Option.some.inj h
        have hbw : (w.kind != 1) = true := by simpa using hw1
        simp -implicitDefEqProofs only [c51, c51_l0, ↓v_lenS, ZZ, Nat.reduceBEq, reduceIte, Nat.reduceAdd, Nat.reduceLeDiff, Nat.reduceEqDiff, Nat.reduceSub, Nat.reduceMul, Nat.reduceDiv, Nat.reduceBneDiff, CL, Int.reduceLE, Int.reduceToNat, nc, nse, nq, loop3, loop2, lt02, lt12, n02, n12, ia, ib, X.cells_mk, q1, g0', g2', d1, d2, d3, d4, hb, f2, f3, f4, f5, f6, f7, f8, f9, r1, wrap01, g06, g26, hbw, j2, j3, j4, j5, j6, j7, j8, j9, e61]
        exact ⟨_, rfl, (r3.box g26 (by decide)).ends, k6.own st.low (by omega) hl3⟩
      rw [if_neg hw1] at h
      obtain rfl := Option.some.inj h
      have hw1 : w.kind = 1 := by simpa using hw1
      have hbw : (w.kind != 1) = false := by simp [hw1]
      obtain ⟨zx, zx1, zx2⟩ := q2.num hv1
      obtain ⟨zy, zy1, zy2⟩ := r2.num hw1
      have eN := eN _ hp v s1 rfl _ hqq w s2 rfl zx zy zx2 zy2 zx1 zy1
      rw [← htx (by omega), ← hty (by omega)] at eN
      rw [← htx (by omega), ← hty (by omega)]
      have k7 := k6.own st.low (by omega) hl3 (ob := .row [.int .i64 v.kind, .str tx, c2, c3, c4, c5, c6, c7, c8, c9, .int .i64 w.kind, .str ty, e2, e3, e4, e5, e6, e7, e8, e9] 0 false (some 162))
      have st7 := r3.box g26 (by decide) (ob := .row [.int .i64 v.kind, .str tx, c2, c3, c4, c5, c6, c7, c8, c9, .int .i64 w.kind, .str ty, e2, e3, e4, e5, e6, e7, e8, e9] 0 false (some 162))
      have etx : tx = decZ zx := (htx (by omega)).trans zx2
      have ety : ty = decZ zy := (hty (by omega)).trans zy2
      cases hN : numsA t tx ty s2 with
      | stop k3 t3 s3 =>
        obtain rfl := num_stop hN
        rw [hN] at eN
        simp only [outV] at eN
        simp -implicitDefEqProofs only [c51, c51_l0, ↓v_lenS, ZZ, Nat.reduceBEq, reduceIte, Nat.reduceAdd, Nat.reduceLeDiff, Nat.reduceEqDiff, Nat.reduceSub, Nat.reduceMul, Nat.reduceDiv, Nat.reduceBneDiff, CL, Int.reduceLE, Int.reduceToNat, nc, nse, nq, loop3, loop2, lt02, lt12, lt22, n02, n12, ia, ib, X.cells_mk, q1, g0', g2', d1, d2, d3, d4, hb, f2, f3, f4, f5, f6, f7, f8, f9, r1, wrap01, wrap11, g06, g16, g26, hbw, j2, j3, j4, j5, j6, j7, j8, j9, loop_succ, eN]
        exact ⟨_, rfl, st7.ends, k7⟩
      | val v3 s3 =>
        have hN' := hN
        rw [etx, ety] at hN'
        rw [hN] at eN
        simp only [outV, atomCs] at eN
        have fin : GiveV F kw kc H bs (some (.ret (.agg (atomCs v3)), (H4.put (H.n + 2) (.row [.int .i64 v.kind, .str tx, c2, c3, c4, c5, c6, c7, c8, c9, .int .i64 w.kind, .str ty, e2, e3, e4, e5, e6, e7, e8, e9] 0 false (some 162))).put (H.n + 1) (.row (atomCs v3) 0 false (some 75)))) (.val v3 s3) := by
          obtain ⟨rfl, hv3⟩ := num_val zx1 zy1 hN' ((H4.put (H.n + 2) (.row [.int .i64 v.kind, .str tx, c2, c3, c4, c5, c6, c7, c8, c9, .int .i64 w.kind, .str ty, e2, e3, e4, e5, e6, e7, e8, e9] 0 false (some 162))).put (H.n + 1) (.row (atomCs v3) 0 false (some 75))) (bs ++ (x ++ y))
          refine ⟨_, _, x ++ y, rfl, hv3, ?_, ?_⟩
          · rw [← List.append_assoc]
            exact st7.box (k := H.n + 1) (t := 75) (put_ne d3 g16) (by decide)
          · exact k7.own st.low (by omega) (by show H.n + 1 < H4.n; omega)
        simp only [atomCs, E0] at fin
        simp -implicitDefEqProofs only [c51, c51_l0, ↓v_lenS, ZZ, Nat.reduceBEq, reduceIte, Nat.reduceAdd, Nat.reduceLeDiff, Nat.reduceEqDiff, Nat.reduceSub, Nat.reduceMul, Nat.reduceDiv, Nat.reduceBneDiff, CL, Int.reduceLE, Int.reduceToNat, nc, nse, nq, loop3, loop2, lt02, lt12, lt22, n02, n12, ia, ib, X.cells_mk, q1, g0', g2', d1, d2, d3, d4, hb, f2, f3, f4, f5, f6, f7, f8, f9, r1, wrap01, wrap11, g06, g16, g26, hbw, j2, j3, j4, j5, j6, j7, j8, j9, loop_succ, eN, E0]
        exact fin
end Go.Lite
