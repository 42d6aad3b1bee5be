/-
  Several texts in one: ZKev, ZSub, ZKnT, ZKnA.
-/
import Derived.Test.YtmfdlglhngmacaaGreatDoorUO
import Derived.Test.YtmfdlglhngmacaaGreatDoorUE
import Derived.Test.YtmfdlglhngmacaaGreatDoorUX
import Derived.KernelRfl

set_option linter.unusedSimpArgs false
set_option linter.unusedVariables false
set_option linter.defProp false
set_option maxRecDepth 100000

/-
  The document's machine, so that the kernel itself can run it: what it comes to there, the machine comes to.
-/
namespace Go.Lite
open Go Go.Proofs
def decF : Nat → Nat → Str
  | 0, _ => []
  | k + 1, n => if n < 10 then [48 + n] else decF k (n / 10) ++ [48 + n % 10]
theorem decF_eq : ∀ (k n : Nat), n < 10 ^ (k + 1) → decF (k + 1) n = decN n
  | 0, n, h => by rw [decF, if_pos (by omega), decN_small (by omega)]
  | k + 1, n, h => by
    rw [decF]
    by_cases hn : n < 10
    · rw [if_pos hn, decN_small hn]
    · rw [if_neg hn, decN_big hn, decF_eq k (n / 10) (by rw [Nat.pow_succ] at h; omega)]
def decK (z : Int) : Str := if z < 0 then 45 :: decF 201 z.natAbs else decF 201 z.natAbs
theorem decK_eq {z : Int} (h : z.natAbs < 10 ^ 200) : decK z = decZ z := by
  have h1 : z.natAbs < 10 ^ (200 + 1) := Nat.lt_of_lt_of_le h (Nat.pow_le_pow_right (by omega) (by omega))
  unfold decK decZ
  rw [decF_eq 200 _ h1]
def valK (t : Str) : Int := match t with
  | 45 :: d => -(dval d : Int)
  | d => dval d
def outK (z : Int) (s : S) : Option (O V) := if z.natAbs < 10 ^ 200 then some (.val (.atom 1 (decK z)) s) else none
def numsK (op a b : Str) (s : S) : Option (O V) :=
  let x := valK a
  let y := valK b
  if x.natAbs < 10 ^ 200 ∧ y.natAbs < 10 ^ 200 ∧ decK x = a ∧ decK y = b then
    if op = opPlus then outK (x + y) s
    else if op = opMinus then outK (x - y) s
    else if op = opTimes then outK (x * y) s
    else if op = opLess then some (.val (truthV (decide (x < y))) s)
    else if op = opSame then some (.val (truthV (decide (x = y))) s)
    else if y = 0 then some (.stop 2 [122, 101, 114, 111] s)
    else if op = opRem then outK (x.tmod y) s
    else outK (x.tdiv y) s
  else none
theorem outK_some {z : Int} {s : S} {o : O V} (h : outK z s = some o) : z.natAbs < 10 ^ 200 ∧ o = .val (.atom 1 (decZ z)) s := by
  unfold outK at h
  split at h
  · rename_i hz
    rw [decK_eq hz] at h
    exact ⟨hz, (Option.some.inj h).symm⟩
  · cases h
theorem numsK_le {op a b : Str} {s : S} {o : O V} (h : numsK op a b s = some o) : numsA op a b s = o := by
  unfold numsK at h
  simp only [] at h
  split at h
  case isFalse => cases h
  rename_i hc
  obtain ⟨h1, h2, h3, h4⟩ := hc
  rw [decK_eq h1] at h3
  rw [decK_eq h2] at h4
  have e1 : numOf a = valK a := by rw [← h3, numOf_decZ]; rw [h3]
  have e2 : numOf b = valK b := by rw [← h4, numOf_decZ]; rw [h4]
  unfold numsA
  simp only [e1, e2]
  by_cases c0 : op = opPlus
  · rw [if_pos c0] at h ⊢; obtain ⟨hz, rfl⟩ := outK_some h; rw [numA, if_pos hz]
  rw [if_neg c0] at h ⊢
  by_cases c1 : op = opMinus
  · rw [if_pos c1] at h ⊢; obtain ⟨hz, rfl⟩ := outK_some h; rw [numA, if_pos hz]
  rw [if_neg c1] at h ⊢
  by_cases c2 : op = opTimes
  · rw [if_pos c2] at h ⊢; obtain ⟨hz, rfl⟩ := outK_some h; rw [numA, if_pos hz]
  rw [if_neg c2] at h ⊢
  by_cases c3 : op = opLess
  · rw [if_pos c3] at h ⊢; exact Option.some.inj h
  rw [if_neg c3] at h ⊢
  by_cases c4 : op = opSame
  · rw [if_pos c4] at h ⊢; exact Option.some.inj h
  rw [if_neg c4] at h ⊢
  by_cases c5 : valK b = 0
  · rw [if_pos c5] at h ⊢; exact Option.some.inj h
  rw [if_neg c5] at h ⊢
  by_cases c6 : op = opRem
  · rw [if_pos c6] at h ⊢; obtain ⟨hz, rfl⟩ := outK_some h; rfl
  · rw [if_neg c6] at h ⊢; obtain ⟨hz, rfl⟩ := outK_some h; rfl
mutual
def evalK (fuel : Nat) : Nat → X → Env → S → Option (O V)
  | 0, _, _, _ => none
  | n + 1, .mk k t ns l, env, s =>
    if s.tick.steps > fuel then some (.stop 6 [] s.tick)
    else if k = 5 then forceK fuel n (lookA env t s.tick).1 (lookA env t s.tick).2
    else if k = 6 then some (.val (.fn (.mk k t ns l) env []) s.tick)
    else if k = 7 then match l with
      | [] => none
      | f :: la => (evalK fuel n f env s.tick).bind fun r => r.bind fun v s => applyK fuel n v (argsA env la s).1 (argsA env la s).2
    else if k = 8 then match l with
      | [c, a, b] => (evalK fuel n c env s.tick).bind fun r => r.bind fun v s => evalK fuel n (if v.isFalse then b else a) env s
      | _ => none
    else if k = 9 then match l[ns.length]? with
      | some b => evalK fuel n b (letEnv ns s.cells.length env) (s.tick.more ((l.take ns.length).map fun e => C.wait e (letEnv ns s.cells.length env)))
      | none => none
    else if k = 10 then match l with
      | [a, b] =>
        if t = consP then some (.val (.pair (argA a env s.tick).1 (argA b env (argA a env s.tick).2).1) (argA b env (argA a env s.tick).2).2)
        else (evalK fuel n a env s.tick).bind fun r => r.bind fun v s =>
          if t = seqT then evalK fuel n b env s
          else if t = eqP then (evalK fuel n b env s).bind fun r => r.bind fun w s => some (.val (truthV (decide (v.kind < 5) && (v.kind == w.kind && v.text == w.text))) s)
          else if v.kind ≠ 1 then some (.stop 2 [110, 117, 109, 98, 101, 114] s)
          else (evalK fuel n b env s).bind fun r => r.bind fun w s => if w.kind ≠ 1 then some (.stop 2 [110, 117, 109, 98, 101, 114] s) else numsK t v.text w.text s
      | [a] => (evalK fuel n a env s.tick).bind fun r => r.bind fun v s =>
        if t = carT ∨ t = cdrT then match v with
          | .pair p q => forceK fuel n (if t = carT then p else q) s
          | _ => some (.stop 2 [112, 97, 105, 114] s)
        else if t = nullT then some (.val (truthV (v.kind == 3)) s)
        else if t = pairT then some (.val (truthV (v.kind == 5)) s)
        else if t = integerT then some (.val (truthV (v.kind == 1)) s)
        else if t = symbolT then some (.val (truthV (v.kind == 4)) s)
        else if t = notT then some (.val (truthV v.isFalse) s)
        else some (.stop 2 (if v.kind < 5 then errorT ++ 32 :: v.text else errorT) s)
      | _ => none
    else some (.val (constV k t) s.tick)
def forceK (fuel : Nat) : Nat → Nat → S → Option (O V)
  | 0, _, _ => none
  | n + 1, c, s => match s.cells[c]? with
    | some (.done v) => some (.val v s)
    | some (.busy _ _) => some (.stop 3 [] s)
    | some (.wait e env) => (evalK fuel n e env (s.set c (.busy e env)).used).bind fun r => r.bind fun v s => some (.val v (s.set c (.done v)))
    | none => none
def applyK (fuel : Nat) : Nat → V → List Nat → S → Option (O V)
  | 0, _, _, _ => none
  | n + 1, v, l, s => if l = [] then some (.val v s) else match v with
    | .fn (.mk k t ns a) env g =>
      if l.length < ns.length - g.length then some (.val (.fn (.mk k t ns a) env (g ++ l)) s)
      else match a with
        | [] => none
        | b :: _ => (evalK fuel n b ((ns.zip (g ++ l.take (ns.length - g.length))).reverse ++ env) s).bind fun r => r.bind fun v s => applyK fuel n v (l.drop (ns.length - g.length)) s
    | _ => some (.stop 2 [97, 112, 112, 108, 121] s)
end
mutual
def printK (fuel : Nat) : Nat → Str → V → S → Option (O Str)
  | 0, _, _, _ => none
  | n + 1, out, v, s => match v with
    | .atom _ t => some (sayA out t s)
    | .fn _ _ _ => some (sayA out [35, 60, 102, 117, 110, 99, 116, 105, 111, 110, 62] s)
    | .pair a b => (sayA out [40] s).bind fun out s => rowK fuel n out a b s
def rowK (fuel : Nat) : Nat → Str → Nat → Nat → S → Option (O Str)
  | 0, _, _, _, _ => none
  | n + 1, out, a, b, s => (forceK fuel n a s).bind fun r => r.bind fun v s => (printK fuel n out v s).bind fun r => r.bind fun out s =>
      (forceK fuel n b s).bind fun r => r.bind fun w s => match w with
        | .pair c d => (sayA out [32] s).bind fun out s => rowK fuel n out c d s
        | w => if w.kind = 3 then some (sayA out [41] s) else (sayA out [32, 46, 32] s).bind fun out s => (printK fuel n out w s).bind fun r => r.bind fun out s => some (sayA out [41] s)
end
def toldK (n : Nat) (e : X) (input : List Str) (fuel : Nat) : Option (Int × Str) :=
  ((evalK fuel n e [(inputT, (inputA input ⟨[], 0, 0⟩).1)] (inputA input ⟨[], 0, 0⟩).2).bind fun r => r.bind fun v s => printK fuel n [] v s).map fun o => (o.kind, o.txt)
/-! ### What it comes to -/
def OLe {α : Type} (a b : Option α) : Prop := ∀ o, a = some o → b = some o
theorem OLe.refl {α : Type} {a : Option α} : OLe a a := fun _ h => h
theorem OLe.none {α : Type} {a : Option α} : OLe .none a := fun o h => by cases h
theorem OLe.bind {α β : Type} {a b : Option (O α)} {k k' : α → S → Option (O β)} (h : OLe a b) (hk : ∀ v s, OLe (k v s) (k' v s)) : OLe (a.bind fun r => r.bind k) (b.bind fun r => r.bind k') := by
  cases a with
  | none => exact OLe.none
  | some r =>
    rw [h r rfl]
    cases r with
    | val v s => exact hk v s
    | stop _ _ _ => exact OLe.refl
theorem OLe.obind {α β : Type} {r : O α} {k k' : α → S → Option (O β)} (hk : ∀ v s, OLe (k v s) (k' v s)) : OLe (r.bind k) (r.bind k') := by
  cases r with
  | val v s => exact hk v s
  | stop _ _ _ => exact OLe.refl
theorem OLe.ite {α : Type} {c : Prop} [Decidable c] {a b a' b' : Option α} (h1 : OLe a a') (h2 : OLe b b') : OLe (if c then a else b) (if c then a' else b') := by
  by_cases h : c
  · rw [if_pos h, if_pos h]; exact h1
  · rw [if_neg h, if_neg h]; exact h2
theorem evalK_le (f : Nat) : ∀ n, (∀ e env s, OLe (evalK f n e env s) (evalA f n e env s)) ∧ (∀ c s, OLe (forceK f n c s) (forceA f n c s)) ∧ (∀ v l s, OLe (applyK f n v l s) (applyA f n v l s))
  | 0 => ⟨fun e env s => by simp only [evalK]; exact OLe.none, fun c s => by simp only [forceK]; exact OLe.none, fun v l s => by simp only [applyK]; exact OLe.none⟩
  | n + 1 => by
    obtain ⟨hE, hF, hA⟩ := evalK_le f n
    refine ⟨fun e env s => ?_, fun c s => ?_, fun v l s => ?_⟩
    · obtain ⟨k, t, ns, l⟩ := e
      simp only [evalK, evalA]
      refine OLe.ite OLe.refl (OLe.ite (hF _ _) (OLe.ite OLe.refl (OLe.ite ?_ (OLe.ite ?_ (OLe.ite ?_ (OLe.ite ?_ OLe.refl))))))
      · cases l with
        | nil => exact OLe.none
        | cons a l => exact OLe.bind (hE _ _ _) fun v s => hA _ _ _
      · match l with
        | [] => exact OLe.none
        | [_] => exact OLe.none
        | [_, _] => exact OLe.none
        | [c, a, b] => exact OLe.bind (hE _ _ _) fun v s => hE _ _ _
        | _ :: _ :: _ :: _ :: _ => exact OLe.none
      · cases l[ns.length]? with
        | none => exact OLe.none
        | some b => exact hE _ _ _
      · match l with
        | [] => exact OLe.none
        | [a] =>
          refine OLe.bind (hE _ _ _) fun v s => OLe.ite ?_ OLe.refl
          cases v with
          | pair p q => exact hF _ _
          | atom _ _ => exact OLe.refl
          | fn _ _ _ => exact OLe.refl
        | [a, b] =>
          refine OLe.ite OLe.refl (OLe.bind (hE _ _ _) fun v s => OLe.ite (hE _ _ _) (OLe.ite (OLe.bind (hE _ _ _) fun w s => OLe.refl) (OLe.ite OLe.refl (OLe.bind (hE _ _ _) fun w s => OLe.ite OLe.refl ?_))))
          intro o h
          rw [numsK_le h]
        | _ :: _ :: _ :: _ => exact OLe.none
    · simp only [forceK, forceA]
      cases s.cells[c]? with
      | none => exact OLe.none
      | some q =>
        cases q with
        | done v => exact OLe.refl
        | busy _ _ => exact OLe.refl
        | wait e env => exact OLe.bind (hE _ _ _) fun v s => OLe.refl
    · simp only [applyK, applyA]
      refine OLe.ite OLe.refl ?_
      cases v with
      | atom _ _ => exact OLe.refl
      | pair _ _ => exact OLe.refl
      | fn e env g =>
        obtain ⟨k, t, ns, a⟩ := e
        refine OLe.ite OLe.refl ?_
        cases a with
        | nil => exact OLe.none
        | cons b a => exact OLe.bind (hE _ _ _) fun v s => hA _ _ _
theorem printK_le (f : Nat) : ∀ n, (∀ out v s, OLe (printK f n out v s) (printA f n out v s)) ∧ (∀ out a b s, OLe (rowK f n out a b s) (rowA f n out a b s))
  | 0 => ⟨fun out v s => by simp only [printK]; exact OLe.none, fun out a b s => by simp only [rowK]; exact OLe.none⟩
  | n + 1 => by
    obtain ⟨hP, hR⟩ := printK_le f n
    refine ⟨fun out v s => ?_, fun out a b s => ?_⟩
    · simp only [printK, printA]
      cases v with
      | atom _ _ => exact OLe.refl
      | fn _ _ _ => exact OLe.refl
      | pair a b => exact OLe.obind fun out s => hR _ _ _ _
    · simp only [rowK, rowA]
      refine OLe.bind ((evalK_le f n).2.1 _ _) fun v s => OLe.bind (hP _ _ _) fun out s => OLe.bind ((evalK_le f n).2.1 _ _) fun w s => ?_
      cases w with
      | pair c d => exact OLe.obind fun out s => hR _ _ _ _
      | atom _ _ => exact OLe.ite OLe.refl (OLe.obind fun out s => OLe.bind (hP _ _ _) fun out s => OLe.refl)
      | fn _ _ _ => exact OLe.ite OLe.refl (OLe.obind fun out s => OLe.bind (hP _ _ _) fun out s => OLe.refl)
theorem toldK_ok {n : Nat} {e : X} {input : List Str} {fuel : Nat} {p : Int × Str} (h : toldK n e input fuel = some p) : ∃ o : O Str, outA n e input fuel = some o ∧ o.kind = p.1 ∧ o.txt = p.2 := by
  unfold toldK at h
  obtain ⟨o, ho, rfl⟩ := Option.map_eq_some_iff.1 h
  exact ⟨o, OLe.bind ((evalK_le fuel n).1 _ _ _) (fun v s => (printK_le fuel n).1 _ _ _) o ho, rfl, rfl⟩
/-! ### Terms that are tame -/
mutual
def tameK : X → Bool
  | .mk k t ns a => (decide (t.length ≤ 1000) && t.all (fun c => decide (c < 256))) && (decide (k ≠ 1) || (decide ((valK t).natAbs < 10 ^ 200) && decide (decK (valK t) = t))) && decide (ns.length ≤ 1000) && decide (a.length ≤ 1000) && tamesK a
def tamesK : List X → Bool
  | [] => true
  | x :: xs => tameK x && tamesK xs
end
theorem tameK_ok : ∀ x : X, tameK x = true → x.tame := X.indA fun k t ns l ih h => by
  simp only [tameK, Bool.and_eq_true, Bool.or_eq_true, decide_eq_true_eq, List.all_eq_true] at h
  obtain ⟨⟨⟨⟨⟨h1, h2⟩, h3⟩, h4⟩, h5⟩, h6⟩ := h
  refine ⟨⟨⟨h1, h2⟩, fun hk => ?_⟩, h4, h5, ?_⟩
  · rcases h3 with h3 | ⟨h3, h7⟩
    · exact absurd hk h3
    · exact ⟨_, h3, by rw [← decK_eq h3]; exact h7.symm⟩
  · rw [X.tames_iff]
    intro x hx
    refine ih x hx ?_
    clear ih h4 h5
    induction l with
    | nil => cases hx
    | cons y l ihl =>
      simp only [tamesK, Bool.and_eq_true] at h6
      rcases List.mem_cons.1 hx with rfl | hx
      · exact h6.1
      · exact ihl h6.2 hx
end Go.Lite

/-
  A program of some functions, of no own ones: what it tells, the whole program tells.
-/
namespace Go.Lite
open Go
structure PrgSub (P Q : Prg) : Prop where
  own : ∀ f, P.own f = none
  code : ∀ f c, P.code f = some c → Q.code f = some c ∧ Q.own f = none
  mode : ∀ f, Q.mode f = P.mode f
theorem PrgSub.sealed {P Q : Prg} (h : PrgSub P Q) (f : FuncId) : PrgSub (P.seal f) (Q.seal f) := ⟨h.own, h.code, fun g => by simp only [Prg.seal, h.mode]⟩
theorem callN_sub : ∀ (n n' : Nat), n ≤ n' → ∀ {P Q : Prg}, PrgSub P Q → CallLe (callN P n) (callN Q n')
  | 0, n', _, P, Q, _ => fun f xs H => RLe.none
  | n + 1, 0, h, _, _, _ => by omega
  | n + 1, n' + 1, hn, P, Q, h => fun f xs H => by
    have ih : CallLe (callN P n) (callN Q n') := callN_sub n n' (by omega) h
    have ihs : CallLe (callN (P.seal f) n) (callN (Q.seal f) n') := callN_sub n n' (by omega) (h.sealed f)
    simp only [callN]
    rw [h.own f]
    simp only []
    cases hc : P.code f with
    | none => exact RLe.none
    | some sf =>
      obtain ⟨h1, h2⟩ := h.code f sf hc
      rw [h1, h2, h.mode]
      simp only []
      cases Nat.ble xs.length sf.nt with
      | false => exact RLe.none
      | true =>
        simp only [cond_true]
        have key : ∀ fr G, RLe (sf.body.run (callN P n) n fr G (finish sf.res)) (sf.body.run (callN Q n') n' fr G (finish sf.res)) := fun fr G => code_mono ih (by omega) _ _ _ fun _ _ _ => RLe.refl
        have keys : ∀ fr G, RLe (sf.body.run (callN (P.seal f) n) n fr G (finish sf.res)) (sf.body.run (callN (Q.seal f) n') n' fr G (finish sf.res)) := fun fr G => code_mono ihs (by omega) _ _ _ fun _ _ _ => RLe.refl
        split
        · exact key _ _
        · exact RLe.bindO fun q => settled_mono (key _ _)
        · exact RLe.bindO fun q => key _ _
        · exact RLe.bindO fun q => keys _ _
        · exact RLe.bindO fun q => opened_mono (key _ _)
end Go.Lite

/-
  The thirty texts of NaturalKnown: what the reader, the expander and the machine make of them, as the kernel runs them.
-/
namespace Go.Lite
open Go Go.Proofs
theorem leafK {f k : Nat} {sf c : SFunc} {Q : Prg} (ho : Q.own k = none) (hc : Q.code k = some sf) (_ : True = True) (h : (bif Nat.beq f k then some sf else none) = some c) : Q.code f = some c ∧ Q.own f = none := by
  cases hb : Nat.beq f k with
  | false => rw [hb] at h; cases h
  | true =>
    obtain rfl := Nat.eq_of_beq_eq_true hb
    rw [hb] at h
    exact ⟨hc.trans h, ho⟩
theorem nodeK {b : Bool} {x y : Option SFunc} {c : SFunc} {G : Prop} (h1 : x = some c → G) (h2 : y = some c → G) (h : (bif b then x else y) = some c) : G := by
  cases b
  · exact h2 h
  · exact h1 h
def codeK (f : Nat) : Option SFunc := bif Nat.blt f 111 then (bif Nat.blt f 84 then (bif Nat.blt f 66 then (bif Nat.blt f 34 then (bif Nat.blt f 19 then (bif Nat.beq f 15 then some c15 else none) else (bif Nat.blt f 33 then (bif Nat.beq f 19 then some c19 else none) else (bif Nat.beq f 33 then some c33 else none))) else (bif Nat.blt f 64 then (bif Nat.blt f 40 then (bif Nat.beq f 34 then some c34 else none) else (bif Nat.beq f 40 then some c40 else none)) else (bif Nat.blt f 65 then (bif Nat.beq f 64 then some c64 else none) else (bif Nat.beq f 65 then some c65 else none)))) else (bif Nat.blt f 69 then (bif Nat.blt f 67 then (bif Nat.beq f 66 then some c66 else none) else (bif Nat.blt f 68 then (bif Nat.beq f 67 then some c67 else none) else (bif Nat.beq f 68 then some c68 else none))) else (bif Nat.blt f 71 then (bif Nat.blt f 70 then (bif Nat.beq f 69 then some c69 else none) else (bif Nat.beq f 70 then some c70 else none)) else (bif Nat.blt f 72 then (bif Nat.beq f 71 then some c71 else none) else (bif Nat.beq f 72 then some c72 else none))))) else (bif Nat.blt f 91 then (bif Nat.blt f 87 then (bif Nat.blt f 85 then (bif Nat.beq f 84 then some c84 else none) else (bif Nat.blt f 86 then (bif Nat.beq f 85 then some c85 else none) else (bif Nat.beq f 86 then some c86 else none))) else (bif Nat.blt f 89 then (bif Nat.blt f 88 then (bif Nat.beq f 87 then some c87 else none) else (bif Nat.beq f 88 then some c88 else none)) else (bif Nat.blt f 90 then (bif Nat.beq f 89 then some c89 else none) else (bif Nat.beq f 90 then some c90 else none)))) else (bif Nat.blt f 107 then (bif Nat.blt f 92 then (bif Nat.beq f 91 then some c91 else none) else (bif Nat.blt f 106 then (bif Nat.beq f 92 then some c92 else none) else (bif Nat.beq f 106 then some c106 else none))) else (bif Nat.blt f 109 then (bif Nat.blt f 108 then (bif Nat.beq f 107 then some c107 else none) else (bif Nat.beq f 108 then some c108 else none)) else (bif Nat.blt f 110 then (bif Nat.beq f 109 then some c109 else none) else (bif Nat.beq f 110 then some c110 else none)))))) else (bif Nat.blt f 142 then (bif Nat.blt f 135 then (bif Nat.blt f 114 then (bif Nat.blt f 112 then (bif Nat.beq f 111 then some c111 else none) else (bif Nat.blt f 113 then (bif Nat.beq f 112 then some c112 else none) else (bif Nat.beq f 113 then some c113 else none))) else (bif Nat.blt f 116 then (bif Nat.blt f 115 then (bif Nat.beq f 114 then some c114 else none) else (bif Nat.beq f 115 then some c115 else none)) else (bif Nat.blt f 117 then (bif Nat.beq f 116 then some c116 else none) else (bif Nat.beq f 117 then some c117 else none)))) else (bif Nat.blt f 138 then (bif Nat.blt f 136 then (bif Nat.beq f 135 then some c135 else none) else (bif Nat.blt f 137 then (bif Nat.beq f 136 then some c136 else none) else (bif Nat.beq f 137 then some c137 else none))) else (bif Nat.blt f 140 then (bif Nat.blt f 139 then (bif Nat.beq f 138 then some c138 else none) else (bif Nat.beq f 139 then some c139 else none)) else (bif Nat.blt f 141 then (bif Nat.beq f 140 then some c140 else none) else (bif Nat.beq f 141 then some c141 else none))))) else (bif Nat.blt f 156 then (bif Nat.blt f 145 then (bif Nat.blt f 143 then (bif Nat.beq f 142 then some c142 else none) else (bif Nat.blt f 144 then (bif Nat.beq f 143 then some c143 else none) else (bif Nat.beq f 144 then some c144 else none))) else (bif Nat.blt f 154 then (bif Nat.blt f 153 then (bif Nat.beq f 145 then some c145 else none) else (bif Nat.beq f 153 then some c153 else none)) else (bif Nat.blt f 155 then (bif Nat.beq f 154 then some c154 else none) else (bif Nat.beq f 155 then some c155 else none)))) else (bif Nat.blt f 159 then (bif Nat.blt f 157 then (bif Nat.beq f 156 then some c156 else none) else (bif Nat.blt f 158 then (bif Nat.beq f 157 then some c157 else none) else (bif Nat.beq f 158 then some c158 else none))) else (bif Nat.blt f 167 then (bif Nat.blt f 160 then (bif Nat.beq f 159 then some c159 else none) else (bif Nat.beq f 160 then some c160 else none)) else (bif Nat.blt f 168 then (bif Nat.beq f 167 then some c167 else none) else (bif Nat.beq f 168 then some c168 else none))))))
theorem codeK_ok {f : Nat} {c : SFunc} (h : codeK f = some c) : P6.code f = some c ∧ P6.own f = none :=
  (nodeK (nodeK (nodeK (nodeK (nodeK (leafK rfl (code15 _ _) rfl) (nodeK (leafK rfl (code19 _ _) rfl) (leafK rfl (code33 _ _) rfl))) (nodeK (nodeK (leafK rfl (code34 _ _) rfl) (leafK rfl (code40 _ _) rfl)) (nodeK (leafK rfl (code64 _ _) rfl) (leafK rfl (code65 _ _) rfl)))) (nodeK (nodeK (leafK rfl (code66 _ _) rfl) (nodeK (leafK rfl (code67 _ _) rfl) (leafK rfl (code68 _ _) rfl))) (nodeK (nodeK (leafK rfl (code69 _ _) rfl) (leafK rfl (code70 _ _) rfl)) (nodeK (leafK rfl (code71 _ _) rfl) (leafK rfl (code72 _ _) rfl))))) (nodeK (nodeK (nodeK (leafK rfl (code84 _ _) rfl) (nodeK (leafK rfl (code85 _ _) rfl) (leafK rfl (code86 _ _) rfl))) (nodeK (nodeK (leafK rfl (code87 _ _) rfl) (leafK rfl (code88 _ _) rfl)) (nodeK (leafK rfl (code89 _ _) rfl) (leafK rfl (code90 _ _) rfl)))) (nodeK (nodeK (leafK rfl (code91 _ _) rfl) (nodeK (leafK rfl (code92 _ _) rfl) (leafK rfl (code106 _ _) rfl))) (nodeK (nodeK (leafK rfl (code107 _ _) rfl) (leafK rfl (code108 _ _) rfl)) (nodeK (leafK rfl (code109 _ _) rfl) (leafK rfl (code110 _ _) rfl)))))) (nodeK (nodeK (nodeK (nodeK (leafK rfl (code111 _ _) rfl) (nodeK (leafK rfl (code112 _ _) rfl) (leafK rfl (code113 _ _) rfl))) (nodeK (nodeK (leafK rfl (code114 _ _) rfl) (leafK rfl (code115 _ _) rfl)) (nodeK (leafK rfl (code116 _ _) rfl) (leafK rfl (code117 _ _) rfl)))) (nodeK (nodeK (leafK rfl (code135 _ _) rfl) (nodeK (leafK rfl (code136 _ _) rfl) (leafK rfl (code137 _ _) rfl))) (nodeK (nodeK (leafK rfl (code138 _ _) rfl) (leafK rfl (code139 _ _) rfl)) (nodeK (leafK rfl (code140 _ _) rfl) (leafK rfl (code141 _ _) rfl))))) (nodeK (nodeK (nodeK (leafK rfl (code142 _ _) rfl) (nodeK (leafK rfl (code143 _ _) rfl) (leafK rfl (code144 _ _) rfl))) (nodeK (nodeK (leafK rfl (code145 _ _) rfl) (leafK rfl (code153 _ _) rfl)) (nodeK (leafK rfl (code154 _ _) rfl) (leafK rfl (code155 _ _) rfl)))) (nodeK (nodeK (leafK rfl (code156 _ _) rfl) (nodeK (leafK rfl (code157 _ _) rfl) (leafK rfl (code158 _ _) rfl))) (nodeK (nodeK (leafK rfl (code159 _ _) rfl) (leafK rfl (code160 _ _) rfl)) (nodeK (leafK rfl (code167 _ _) rfl) (leafK rfl (code168 _ _) rfl))))))) h
def PK : Prg := ⟨codeK, fun _ => none, mode5⟩
theorem pk6 : PrgSub PK P6 := ⟨fun _ => rfl, fun f c h => codeK_ok h, fun _ => rfl⟩
theorem ofK {s : Str} {v : AV} (h : ∀ H, callN PK 60 15 [.str s] H = some (.ret v, H)) : Ret P6 15 [.str s] v :=
  (Ev.ge 60).mono fun n hn H => callN_sub 60 n hn pk6 15 _ H _ (h H)
def srcA : List AV := [.str [40, 43, 32, 50, 32, 51, 41], .str [39, 40, 49, 32, 40, 50, 32, 35, 116, 41, 32, 97, 41], .str [40, 99, 111, 110, 115, 32, 49, 32, 50, 41], .str [40, 108, 97, 109, 98, 100, 97, 32, 40, 120, 41, 32, 120, 41], .str [40, 99, 97, 114, 32, 39, 40, 41, 41], .str [40, 43, 32, 49, 32, 39, 97, 41], .str [40, 113, 117, 111, 116, 105, 101, 110, 116, 32, 55, 32, 48, 41], .str [40, 101, 114, 114, 111, 114, 32, 39, 111, 111, 112, 115, 41], .str [40, 108, 101, 116, 114, 101, 99, 32, 40, 40, 120, 32, 120, 41, 41, 32, 120, 41], .str [40, 108, 101, 116, 114, 101, 99, 32, 40, 40, 120, 32, 40, 43, 32, 120, 32, 49, 41, 41, 41, 32, 120, 41], .str [40, 40, 108, 97, 109, 98, 100, 97, 32, 40, 120, 32, 121, 41, 32, 120, 41, 32, 49, 32, 40, 101, 114, 114, 111, 114, 32, 50, 41, 41], .str [40, 99, 97, 114, 32, 40, 99, 111, 110, 115, 32, 49, 32, 40, 101, 114, 114, 111, 114, 32, 50, 41, 41, 41], .str [40, 115, 101, 113, 32, 40, 101, 114, 114, 111, 114, 32, 49, 41, 32, 50, 41], .str [40, 40, 108, 97, 109, 98, 100, 97, 32, 40, 120, 32, 121, 41, 32, 40, 43, 32, 120, 32, 121, 41, 41, 32, 49, 41], .str [40, 49, 32, 50, 41], .str [40, 105, 102, 32, 39, 40, 41, 32, 49, 32, 50, 41], .str [40, 105, 102, 32, 35, 102, 32, 49, 32, 50, 41], .str [40, 108, 101, 116, 114, 101, 99, 32, 40, 40, 111, 110, 101, 115, 32, 40, 99, 111, 110, 115, 32, 49, 32, 111, 110, 101, 115, 41, 41, 41, 32, 40, 99, 97, 114, 32, 40, 99, 100, 114, 32, 40, 99, 100, 114, 32, 111, 110, 101, 115, 41, 41, 41, 41], .str [40, 45, 32, 51, 32, 53, 41], .str [40, 113, 117, 111, 116, 105, 101, 110, 116, 32, 45, 55, 32, 50, 41], .str [40, 114, 101, 109, 97, 105, 110, 100, 101, 114, 32, 45, 55, 32, 50, 41], .str [40, 101, 113, 63, 32, 39, 97, 32, 39, 97, 41], .str [40, 101, 113, 63, 32, 39, 40, 49, 41, 32, 39, 40, 49, 41, 41], .str [40, 60, 32, 50, 32, 49, 48, 41], .str [40, 99, 111, 110, 115, 32, 49, 32, 40, 99, 111, 110, 115, 32, 50, 32, 51, 41, 41], .str [40, 99, 100, 114, 32, 40, 99, 111, 110, 115, 32, 49, 32, 40, 101, 114, 114, 111, 114, 32, 39, 40, 50, 41, 41, 41, 41], .str [105, 110, 112, 117, 116], .str [40, 100, 101, 102, 105, 110, 101, 32, 40, 102, 32, 110, 41, 32, 40, 105, 102, 32, 40, 61, 32, 110, 32, 48, 41, 32, 49, 32, 40, 42, 32, 110, 32, 40, 102, 32, 40, 45, 32, 110, 32, 49, 41, 41, 41, 41, 41, 32, 40, 102, 32, 50, 48, 41], .str [40, 40, 40, 108, 97, 109, 98, 100, 97, 32, 40, 120, 41, 32, 40, 108, 97, 109, 98, 100, 97, 32, 40, 121, 41, 32, 40, 45, 32, 120, 32, 121, 41, 41, 41, 32, 53, 41, 32, 51, 41], .str [40, 110, 111, 116, 32, 53, 41]]
theorem srcA_b {fr : Fr} {k : Nat} : AOp.val (.buildS [.str [], .str [], .str [], .str [], .str [], .str [], .str [], .str [], .str [], .str [], .str [], .str [], .str [], .str [], .str [], .str [], .str [], .str [], .str [], .str [], .str [], .str [], .str [], .str [], .str [], .str [], .str [], .str [], .str [], .str []] 30 [(0, 1, .lit (.str [40, 43, 32, 50, 32, 51, 41])), (1, 1, .lit (.str [39, 40, 49, 32, 40, 50, 32, 35, 116, 41, 32, 97, 41])), (2, 1, .lit (.str [40, 99, 111, 110, 115, 32, 49, 32, 50, 41])), (3, 1, .lit (.str [40, 108, 97, 109, 98, 100, 97, 32, 40, 120, 41, 32, 120, 41])), (4, 1, .lit (.str [40, 99, 97, 114, 32, 39, 40, 41, 41])), (5, 1, .lit (.str [40, 43, 32, 49, 32, 39, 97, 41])), (6, 1, .lit (.str [40, 113, 117, 111, 116, 105, 101, 110, 116, 32, 55, 32, 48, 41])), (7, 1, .lit (.str [40, 101, 114, 114, 111, 114, 32, 39, 111, 111, 112, 115, 41])), (8, 1, .lit (.str [40, 108, 101, 116, 114, 101, 99, 32, 40, 40, 120, 32, 120, 41, 41, 32, 120, 41])), (9, 1, .lit (.str [40, 108, 101, 116, 114, 101, 99, 32, 40, 40, 120, 32, 40, 43, 32, 120, 32, 49, 41, 41, 41, 32, 120, 41])), (10, 1, .lit (.str [40, 40, 108, 97, 109, 98, 100, 97, 32, 40, 120, 32, 121, 41, 32, 120, 41, 32, 49, 32, 40, 101, 114, 114, 111, 114, 32, 50, 41, 41])), (11, 1, .lit (.str [40, 99, 97, 114, 32, 40, 99, 111, 110, 115, 32, 49, 32, 40, 101, 114, 114, 111, 114, 32, 50, 41, 41, 41])), (12, 1, .lit (.str [40, 115, 101, 113, 32, 40, 101, 114, 114, 111, 114, 32, 49, 41, 32, 50, 41])), (13, 1, .lit (.str [40, 40, 108, 97, 109, 98, 100, 97, 32, 40, 120, 32, 121, 41, 32, 40, 43, 32, 120, 32, 121, 41, 41, 32, 49, 41])), (14, 1, .lit (.str [40, 49, 32, 50, 41])), (15, 1, .lit (.str [40, 105, 102, 32, 39, 40, 41, 32, 49, 32, 50, 41])), (16, 1, .lit (.str [40, 105, 102, 32, 35, 102, 32, 49, 32, 50, 41])), (17, 1, .lit (.str [40, 108, 101, 116, 114, 101, 99, 32, 40, 40, 111, 110, 101, 115, 32, 40, 99, 111, 110, 115, 32, 49, 32, 111, 110, 101, 115, 41, 41, 41, 32, 40, 99, 97, 114, 32, 40, 99, 100, 114, 32, 40, 99, 100, 114, 32, 111, 110, 101, 115, 41, 41, 41, 41])), (18, 1, .lit (.str [40, 45, 32, 51, 32, 53, 41])), (19, 1, .lit (.str [40, 113, 117, 111, 116, 105, 101, 110, 116, 32, 45, 55, 32, 50, 41])), (20, 1, .lit (.str [40, 114, 101, 109, 97, 105, 110, 100, 101, 114, 32, 45, 55, 32, 50, 41])), (21, 1, .lit (.str [40, 101, 113, 63, 32, 39, 97, 32, 39, 97, 41])), (22, 1, .lit (.str [40, 101, 113, 63, 32, 39, 40, 49, 41, 32, 39, 40, 49, 41, 41])), (23, 1, .lit (.str [40, 60, 32, 50, 32, 49, 48, 41])), (24, 1, .lit (.str [40, 99, 111, 110, 115, 32, 49, 32, 40, 99, 111, 110, 115, 32, 50, 32, 51, 41, 41])), (25, 1, .lit (.str [40, 99, 100, 114, 32, 40, 99, 111, 110, 115, 32, 49, 32, 40, 101, 114, 114, 111, 114, 32, 39, 40, 50, 41, 41, 41, 41])), (26, 1, .lit (.str [105, 110, 112, 117, 116])), (27, 1, .lit (.str [40, 100, 101, 102, 105, 110, 101, 32, 40, 102, 32, 110, 41, 32, 40, 105, 102, 32, 40, 61, 32, 110, 32, 48, 41, 32, 49, 32, 40, 42, 32, 110, 32, 40, 102, 32, 40, 45, 32, 110, 32, 49, 41, 41, 41, 41, 41, 32, 40, 102, 32, 50, 48, 41])), (28, 1, .lit (.str [40, 40, 40, 108, 97, 109, 98, 100, 97, 32, 40, 120, 41, 32, 40, 108, 97, 109, 98, 100, 97, 32, 40, 121, 41, 32, 40, 45, 32, 120, 32, 121, 41, 41, 41, 32, 53, 41, 32, 51, 41])), (29, 1, .lit (.str [40, 110, 111, 116, 32, 53, 41]))]) fr k = some (.row srcA 0 true none, .lst 1 30 true srcA) := by kernel_rfl
def wantA : List AV := [.str [49, 32, 53], .str [49, 32, 40, 49, 32, 40, 50, 32, 35, 116, 41, 32, 97, 41], .str [49, 32, 40, 49, 32, 46, 32, 50, 41], .str [49, 32, 35, 60, 102, 117, 110, 99, 116, 105, 111, 110, 62], .str [50, 32, 112, 97, 105, 114], .str [50, 32, 110, 117, 109, 98, 101, 114], .str [50, 32, 122, 101, 114, 111], .str [50, 32, 101, 114, 114, 111, 114, 32, 111, 111, 112, 115], .str [51, 32], .str [51, 32], .str [49, 32, 49], .str [49, 32, 49], .str [50, 32, 101, 114, 114, 111, 114, 32, 49], .str [49, 32, 35, 60, 102, 117, 110, 99, 116, 105, 111, 110, 62], .str [50, 32, 97, 112, 112, 108, 121], .str [49, 32, 49], .str [49, 32, 50], .str [49, 32, 49], .str [49, 32, 45, 50], .str [49, 32, 45, 51], .str [49, 32, 45, 49], .str [49, 32, 35, 116], .str [49, 32, 35, 102], .str [49, 32, 35, 116], .str [49, 32, 40, 49, 32, 50, 32, 46, 32, 51, 41], .str [50, 32, 101, 114, 114, 111, 114], .str [49, 32, 40, 52, 32, 45, 53, 41], .str [49, 32, 50, 52, 51, 50, 57, 48, 50, 48, 48, 56, 49, 55, 54, 54, 52, 48, 48, 48, 48], .str [49, 32, 50], .str [49, 32, 35, 102]]
theorem wantA_b {fr : Fr} {k : Nat} : AOp.val (.buildS [.str [], .str [], .str [], .str [], .str [], .str [], .str [], .str [], .str [], .str [], .str [], .str [], .str [], .str [], .str [], .str [], .str [], .str [], .str [], .str [], .str [], .str [], .str [], .str [], .str [], .str [], .str [], .str [], .str [], .str []] 30 [(0, 1, .lit (.str [49, 32, 53])), (1, 1, .lit (.str [49, 32, 40, 49, 32, 40, 50, 32, 35, 116, 41, 32, 97, 41])), (2, 1, .lit (.str [49, 32, 40, 49, 32, 46, 32, 50, 41])), (3, 1, .lit (.str [49, 32, 35, 60, 102, 117, 110, 99, 116, 105, 111, 110, 62])), (4, 1, .lit (.str [50, 32, 112, 97, 105, 114])), (5, 1, .lit (.str [50, 32, 110, 117, 109, 98, 101, 114])), (6, 1, .lit (.str [50, 32, 122, 101, 114, 111])), (7, 1, .lit (.str [50, 32, 101, 114, 114, 111, 114, 32, 111, 111, 112, 115])), (8, 1, .lit (.str [51, 32])), (9, 1, .lit (.str [51, 32])), (10, 1, .lit (.str [49, 32, 49])), (11, 1, .lit (.str [49, 32, 49])), (12, 1, .lit (.str [50, 32, 101, 114, 114, 111, 114, 32, 49])), (13, 1, .lit (.str [49, 32, 35, 60, 102, 117, 110, 99, 116, 105, 111, 110, 62])), (14, 1, .lit (.str [50, 32, 97, 112, 112, 108, 121])), (15, 1, .lit (.str [49, 32, 49])), (16, 1, .lit (.str [49, 32, 50])), (17, 1, .lit (.str [49, 32, 49])), (18, 1, .lit (.str [49, 32, 45, 50])), (19, 1, .lit (.str [49, 32, 45, 51])), (20, 1, .lit (.str [49, 32, 45, 49])), (21, 1, .lit (.str [49, 32, 35, 116])), (22, 1, .lit (.str [49, 32, 35, 102])), (23, 1, .lit (.str [49, 32, 35, 116])), (24, 1, .lit (.str [49, 32, 40, 49, 32, 50, 32, 46, 32, 51, 41])), (25, 1, .lit (.str [50, 32, 101, 114, 114, 111, 114])), (26, 1, .lit (.str [49, 32, 40, 52, 32, 45, 53, 41])), (27, 1, .lit (.str [49, 32, 50, 52, 51, 50, 57, 48, 50, 48, 48, 56, 49, 55, 54, 54, 52, 48, 48, 48, 48])), (28, 1, .lit (.str [49, 32, 50])), (29, 1, .lit (.str [49, 32, 35, 102]))]) fr k = some (.row wantA 0 true none, .lst 1 30 true wantA) := by kernel_rfl
end Go.Lite

/-
  The thirty texts of NaturalKnown, each run by the kernel.
-/
namespace Go.Lite
open Go Go.Proofs
structure KnownT (k : Nat) : Prop where
  told : ∃ (s w : Str) (e : X) (kk : Int) (t : Str), (srcA.drop (k * 1)).take 1 = [.str s] ∧ (wantA.drop (k * 1)).take 1 = [.str w] ∧ (∀ H, callN PK 60 15 [.str s] H = some (.ret (.tuple [e.v, .bool true]), H)) ∧ tameK e = true ∧ toldK 400 e [[52], [45, 53]] 2000 = some (kk, t) ∧ (kk = 1 ∨ kk = 2 ∨ kk = 3) ∧ w = (48 + kk.toNat) :: 32 :: t
theorem known_0 : KnownT 0 := ⟨[40, 43, 32, 50, 32, 51, 41], [49, 32, 53], (.mk 10 [43] [] [(.mk 1 [50] [] []), (.mk 1 [51] [] [])]), 1, [53], by rfl, by rfl, fun H => by kernel_rfl, by kernel_rfl, by kernel_rfl, by decide, by rfl⟩
theorem known_1 : KnownT 1 := ⟨[39, 40, 49, 32, 40, 50, 32, 35, 116, 41, 32, 97, 41], [49, 32, 40, 49, 32, 40, 50, 32, 35, 116, 41, 32, 97, 41], (.mk 10 [99, 111, 110, 115] [] [(.mk 1 [49] [] []), (.mk 10 [99, 111, 110, 115] [] [(.mk 10 [99, 111, 110, 115] [] [(.mk 1 [50] [] []), (.mk 10 [99, 111, 110, 115] [] [(.mk 2 [35, 116] [] []), (.mk 3 [] [] [])])]), (.mk 10 [99, 111, 110, 115] [] [(.mk 4 [97] [] []), (.mk 3 [] [] [])])])]), 1, [40, 49, 32, 40, 50, 32, 35, 116, 41, 32, 97, 41], by rfl, by rfl, fun H => by kernel_rfl, by kernel_rfl, by kernel_rfl, by decide, by rfl⟩
theorem known_2 : KnownT 2 := ⟨[40, 99, 111, 110, 115, 32, 49, 32, 50, 41], [49, 32, 40, 49, 32, 46, 32, 50, 41], (.mk 10 [99, 111, 110, 115] [] [(.mk 1 [49] [] []), (.mk 1 [50] [] [])]), 1, [40, 49, 32, 46, 32, 50, 41], by rfl, by rfl, fun H => by kernel_rfl, by kernel_rfl, by kernel_rfl, by decide, by rfl⟩
theorem known_3 : KnownT 3 := ⟨[40, 108, 97, 109, 98, 100, 97, 32, 40, 120, 41, 32, 120, 41], [49, 32, 35, 60, 102, 117, 110, 99, 116, 105, 111, 110, 62], (.mk 6 [] [[120, 46, 49]] [(.mk 5 [120, 46, 49] [] [])]), 1, [35, 60, 102, 117, 110, 99, 116, 105, 111, 110, 62], by rfl, by rfl, fun H => by kernel_rfl, by kernel_rfl, by kernel_rfl, by decide, by rfl⟩
theorem known_4 : KnownT 4 := ⟨[40, 99, 97, 114, 32, 39, 40, 41, 41], [50, 32, 112, 97, 105, 114], (.mk 10 [99, 97, 114] [] [(.mk 3 [] [] [])]), 2, [112, 97, 105, 114], by rfl, by rfl, fun H => by kernel_rfl, by kernel_rfl, by kernel_rfl, by decide, by rfl⟩
theorem known_5 : KnownT 5 := ⟨[40, 43, 32, 49, 32, 39, 97, 41], [50, 32, 110, 117, 109, 98, 101, 114], (.mk 10 [43] [] [(.mk 1 [49] [] []), (.mk 4 [97] [] [])]), 2, [110, 117, 109, 98, 101, 114], by rfl, by rfl, fun H => by kernel_rfl, by kernel_rfl, by kernel_rfl, by decide, by rfl⟩
theorem known_6 : KnownT 6 := ⟨[40, 113, 117, 111, 116, 105, 101, 110, 116, 32, 55, 32, 48, 41], [50, 32, 122, 101, 114, 111], (.mk 10 [113, 117, 111, 116, 105, 101, 110, 116] [] [(.mk 1 [55] [] []), (.mk 1 [48] [] [])]), 2, [122, 101, 114, 111], by rfl, by rfl, fun H => by kernel_rfl, by kernel_rfl, by kernel_rfl, by decide, by rfl⟩
theorem known_7 : KnownT 7 := ⟨[40, 101, 114, 114, 111, 114, 32, 39, 111, 111, 112, 115, 41], [50, 32, 101, 114, 114, 111, 114, 32, 111, 111, 112, 115], (.mk 10 [101, 114, 114, 111, 114] [] [(.mk 4 [111, 111, 112, 115] [] [])]), 2, [101, 114, 114, 111, 114, 32, 111, 111, 112, 115], by rfl, by rfl, fun H => by kernel_rfl, by kernel_rfl, by kernel_rfl, by decide, by rfl⟩
theorem known_8 : KnownT 8 := ⟨[40, 108, 101, 116, 114, 101, 99, 32, 40, 40, 120, 32, 120, 41, 41, 32, 120, 41], [51, 32], (.mk 9 [] [[120, 46, 49]] [(.mk 5 [120, 46, 49] [] []), (.mk 5 [120, 46, 49] [] [])]), 3, [], by rfl, by rfl, fun H => by kernel_rfl, by kernel_rfl, by kernel_rfl, by decide, by rfl⟩
theorem known_9 : KnownT 9 := ⟨[40, 108, 101, 116, 114, 101, 99, 32, 40, 40, 120, 32, 40, 43, 32, 120, 32, 49, 41, 41, 41, 32, 120, 41], [51, 32], (.mk 9 [] [[120, 46, 49]] [(.mk 10 [43] [] [(.mk 5 [120, 46, 49] [] []), (.mk 1 [49] [] [])]), (.mk 5 [120, 46, 49] [] [])]), 3, [], by rfl, by rfl, fun H => by kernel_rfl, by kernel_rfl, by kernel_rfl, by decide, by rfl⟩
theorem known_10 : KnownT 10 := ⟨[40, 40, 108, 97, 109, 98, 100, 97, 32, 40, 120, 32, 121, 41, 32, 120, 41, 32, 49, 32, 40, 101, 114, 114, 111, 114, 32, 50, 41, 41], [49, 32, 49], (.mk 7 [] [] [(.mk 6 [] [[120, 46, 49], [121, 46, 50]] [(.mk 5 [120, 46, 49] [] [])]), (.mk 1 [49] [] []), (.mk 10 [101, 114, 114, 111, 114] [] [(.mk 1 [50] [] [])])]), 1, [49], by rfl, by rfl, fun H => by kernel_rfl, by kernel_rfl, by kernel_rfl, by decide, by rfl⟩
theorem known_11 : KnownT 11 := ⟨[40, 99, 97, 114, 32, 40, 99, 111, 110, 115, 32, 49, 32, 40, 101, 114, 114, 111, 114, 32, 50, 41, 41, 41], [49, 32, 49], (.mk 10 [99, 97, 114] [] [(.mk 10 [99, 111, 110, 115] [] [(.mk 1 [49] [] []), (.mk 10 [101, 114, 114, 111, 114] [] [(.mk 1 [50] [] [])])])]), 1, [49], by rfl, by rfl, fun H => by kernel_rfl, by kernel_rfl, by kernel_rfl, by decide, by rfl⟩
theorem known_12 : KnownT 12 := ⟨[40, 115, 101, 113, 32, 40, 101, 114, 114, 111, 114, 32, 49, 41, 32, 50, 41], [50, 32, 101, 114, 114, 111, 114, 32, 49], (.mk 10 [115, 101, 113] [] [(.mk 10 [101, 114, 114, 111, 114] [] [(.mk 1 [49] [] [])]), (.mk 1 [50] [] [])]), 2, [101, 114, 114, 111, 114, 32, 49], by rfl, by rfl, fun H => by kernel_rfl, by kernel_rfl, by kernel_rfl, by decide, by rfl⟩
theorem known_13 : KnownT 13 := ⟨[40, 40, 108, 97, 109, 98, 100, 97, 32, 40, 120, 32, 121, 41, 32, 40, 43, 32, 120, 32, 121, 41, 41, 32, 49, 41], [49, 32, 35, 60, 102, 117, 110, 99, 116, 105, 111, 110, 62], (.mk 7 [] [] [(.mk 6 [] [[120, 46, 49], [121, 46, 50]] [(.mk 10 [43] [] [(.mk 5 [120, 46, 49] [] []), (.mk 5 [121, 46, 50] [] [])])]), (.mk 1 [49] [] [])]), 1, [35, 60, 102, 117, 110, 99, 116, 105, 111, 110, 62], by rfl, by rfl, fun H => by kernel_rfl, by kernel_rfl, by kernel_rfl, by decide, by rfl⟩
theorem known_14 : KnownT 14 := ⟨[40, 49, 32, 50, 41], [50, 32, 97, 112, 112, 108, 121], (.mk 7 [] [] [(.mk 1 [49] [] []), (.mk 1 [50] [] [])]), 2, [97, 112, 112, 108, 121], by rfl, by rfl, fun H => by kernel_rfl, by kernel_rfl, by kernel_rfl, by decide, by rfl⟩
theorem known_15 : KnownT 15 := ⟨[40, 105, 102, 32, 39, 40, 41, 32, 49, 32, 50, 41], [49, 32, 49], (.mk 8 [] [] [(.mk 3 [] [] []), (.mk 1 [49] [] []), (.mk 1 [50] [] [])]), 1, [49], by rfl, by rfl, fun H => by kernel_rfl, by kernel_rfl, by kernel_rfl, by decide, by rfl⟩
theorem known_16 : KnownT 16 := ⟨[40, 105, 102, 32, 35, 102, 32, 49, 32, 50, 41], [49, 32, 50], (.mk 8 [] [] [(.mk 2 [35, 102] [] []), (.mk 1 [49] [] []), (.mk 1 [50] [] [])]), 1, [50], by rfl, by rfl, fun H => by kernel_rfl, by kernel_rfl, by kernel_rfl, by decide, by rfl⟩
theorem known_17 : KnownT 17 := ⟨[40, 108, 101, 116, 114, 101, 99, 32, 40, 40, 111, 110, 101, 115, 32, 40, 99, 111, 110, 115, 32, 49, 32, 111, 110, 101, 115, 41, 41, 41, 32, 40, 99, 97, 114, 32, 40, 99, 100, 114, 32, 40, 99, 100, 114, 32, 111, 110, 101, 115, 41, 41, 41, 41], [49, 32, 49], (.mk 9 [] [[111, 110, 101, 115, 46, 49]] [(.mk 10 [99, 111, 110, 115] [] [(.mk 1 [49] [] []), (.mk 5 [111, 110, 101, 115, 46, 49] [] [])]), (.mk 10 [99, 97, 114] [] [(.mk 10 [99, 100, 114] [] [(.mk 10 [99, 100, 114] [] [(.mk 5 [111, 110, 101, 115, 46, 49] [] [])])])])]), 1, [49], by rfl, by rfl, fun H => by kernel_rfl, by kernel_rfl, by kernel_rfl, by decide, by rfl⟩
theorem known_18 : KnownT 18 := ⟨[40, 45, 32, 51, 32, 53, 41], [49, 32, 45, 50], (.mk 10 [45] [] [(.mk 1 [51] [] []), (.mk 1 [53] [] [])]), 1, [45, 50], by rfl, by rfl, fun H => by kernel_rfl, by kernel_rfl, by kernel_rfl, by decide, by rfl⟩
theorem known_19 : KnownT 19 := ⟨[40, 113, 117, 111, 116, 105, 101, 110, 116, 32, 45, 55, 32, 50, 41], [49, 32, 45, 51], (.mk 10 [113, 117, 111, 116, 105, 101, 110, 116] [] [(.mk 1 [45, 55] [] []), (.mk 1 [50] [] [])]), 1, [45, 51], by rfl, by rfl, fun H => by kernel_rfl, by kernel_rfl, by kernel_rfl, by decide, by rfl⟩
theorem known_20 : KnownT 20 := ⟨[40, 114, 101, 109, 97, 105, 110, 100, 101, 114, 32, 45, 55, 32, 50, 41], [49, 32, 45, 49], (.mk 10 [114, 101, 109, 97, 105, 110, 100, 101, 114] [] [(.mk 1 [45, 55] [] []), (.mk 1 [50] [] [])]), 1, [45, 49], by rfl, by rfl, fun H => by kernel_rfl, by kernel_rfl, by kernel_rfl, by decide, by rfl⟩
theorem known_21 : KnownT 21 := ⟨[40, 101, 113, 63, 32, 39, 97, 32, 39, 97, 41], [49, 32, 35, 116], (.mk 10 [101, 113, 63] [] [(.mk 4 [97] [] []), (.mk 4 [97] [] [])]), 1, [35, 116], by rfl, by rfl, fun H => by kernel_rfl, by kernel_rfl, by kernel_rfl, by decide, by rfl⟩
theorem known_22 : KnownT 22 := ⟨[40, 101, 113, 63, 32, 39, 40, 49, 41, 32, 39, 40, 49, 41, 41], [49, 32, 35, 102], (.mk 10 [101, 113, 63] [] [(.mk 10 [99, 111, 110, 115] [] [(.mk 1 [49] [] []), (.mk 3 [] [] [])]), (.mk 10 [99, 111, 110, 115] [] [(.mk 1 [49] [] []), (.mk 3 [] [] [])])]), 1, [35, 102], by rfl, by rfl, fun H => by kernel_rfl, by kernel_rfl, by kernel_rfl, by decide, by rfl⟩
theorem known_23 : KnownT 23 := ⟨[40, 60, 32, 50, 32, 49, 48, 41], [49, 32, 35, 116], (.mk 10 [60] [] [(.mk 1 [50] [] []), (.mk 1 [49, 48] [] [])]), 1, [35, 116], by rfl, by rfl, fun H => by kernel_rfl, by kernel_rfl, by kernel_rfl, by decide, by rfl⟩
theorem known_24 : KnownT 24 := ⟨[40, 99, 111, 110, 115, 32, 49, 32, 40, 99, 111, 110, 115, 32, 50, 32, 51, 41, 41], [49, 32, 40, 49, 32, 50, 32, 46, 32, 51, 41], (.mk 10 [99, 111, 110, 115] [] [(.mk 1 [49] [] []), (.mk 10 [99, 111, 110, 115] [] [(.mk 1 [50] [] []), (.mk 1 [51] [] [])])]), 1, [40, 49, 32, 50, 32, 46, 32, 51, 41], by rfl, by rfl, fun H => by kernel_rfl, by kernel_rfl, by kernel_rfl, by decide, by rfl⟩
theorem known_25 : KnownT 25 := ⟨[40, 99, 100, 114, 32, 40, 99, 111, 110, 115, 32, 49, 32, 40, 101, 114, 114, 111, 114, 32, 39, 40, 50, 41, 41, 41, 41], [50, 32, 101, 114, 114, 111, 114], (.mk 10 [99, 100, 114] [] [(.mk 10 [99, 111, 110, 115] [] [(.mk 1 [49] [] []), (.mk 10 [101, 114, 114, 111, 114] [] [(.mk 10 [99, 111, 110, 115] [] [(.mk 1 [50] [] []), (.mk 3 [] [] [])])])])]), 2, [101, 114, 114, 111, 114], by rfl, by rfl, fun H => by kernel_rfl, by kernel_rfl, by kernel_rfl, by decide, by rfl⟩
theorem known_26 : KnownT 26 := ⟨[105, 110, 112, 117, 116], [49, 32, 40, 52, 32, 45, 53, 41], (.mk 5 [105, 110, 112, 117, 116] [] []), 1, [40, 52, 32, 45, 53, 41], by rfl, by rfl, fun H => by kernel_rfl, by kernel_rfl, by kernel_rfl, by decide, by rfl⟩
theorem known_27 : KnownT 27 := ⟨[40, 100, 101, 102, 105, 110, 101, 32, 40, 102, 32, 110, 41, 32, 40, 105, 102, 32, 40, 61, 32, 110, 32, 48, 41, 32, 49, 32, 40, 42, 32, 110, 32, 40, 102, 32, 40, 45, 32, 110, 32, 49, 41, 41, 41, 41, 41, 32, 40, 102, 32, 50, 48, 41], [49, 32, 50, 52, 51, 50, 57, 48, 50, 48, 48, 56, 49, 55, 54, 54, 52, 48, 48, 48, 48], (.mk 9 [] [[102, 46, 49]] [(.mk 6 [] [[110, 46, 50]] [(.mk 8 [] [] [(.mk 10 [61] [] [(.mk 5 [110, 46, 50] [] []), (.mk 1 [48] [] [])]), (.mk 1 [49] [] []), (.mk 10 [42] [] [(.mk 5 [110, 46, 50] [] []), (.mk 7 [] [] [(.mk 5 [102, 46, 49] [] []), (.mk 10 [45] [] [(.mk 5 [110, 46, 50] [] []), (.mk 1 [49] [] [])])])])])]), (.mk 7 [] [] [(.mk 5 [102, 46, 49] [] []), (.mk 1 [50, 48] [] [])])]), 1, [50, 52, 51, 50, 57, 48, 50, 48, 48, 56, 49, 55, 54, 54, 52, 48, 48, 48, 48], by rfl, by rfl, fun H => by kernel_rfl, by kernel_rfl, by kernel_rfl, by decide, by rfl⟩
theorem known_28 : KnownT 28 := ⟨[40, 40, 40, 108, 97, 109, 98, 100, 97, 32, 40, 120, 41, 32, 40, 108, 97, 109, 98, 100, 97, 32, 40, 121, 41, 32, 40, 45, 32, 120, 32, 121, 41, 41, 41, 32, 53, 41, 32, 51, 41], [49, 32, 50], (.mk 7 [] [] [(.mk 7 [] [] [(.mk 6 [] [[120, 46, 49]] [(.mk 6 [] [[121, 46, 50]] [(.mk 10 [45] [] [(.mk 5 [120, 46, 49] [] []), (.mk 5 [121, 46, 50] [] [])])])]), (.mk 1 [53] [] [])]), (.mk 1 [51] [] [])]), 1, [50], by rfl, by rfl, fun H => by kernel_rfl, by kernel_rfl, by kernel_rfl, by decide, by rfl⟩
theorem known_29 : KnownT 29 := ⟨[40, 110, 111, 116, 32, 53, 41], [49, 32, 35, 102], (.mk 10 [110, 111, 116] [] [(.mk 1 [53] [] [])]), 1, [35, 102], by rfl, by rfl, fun H => by kernel_rfl, by kernel_rfl, by kernel_rfl, by decide, by rfl⟩
theorem known_all : ∀ k : Nat, k < 30 → KnownT k
  | 0, _ => known_0
  | 1, _ => known_1
  | 2, _ => known_2
  | 3, _ => known_3
  | 4, _ => known_4
  | 5, _ => known_5
  | 6, _ => known_6
  | 7, _ => known_7
  | 8, _ => known_8
  | 9, _ => known_9
  | 10, _ => known_10
  | 11, _ => known_11
  | 12, _ => known_12
  | 13, _ => known_13
  | 14, _ => known_14
  | 15, _ => known_15
  | 16, _ => known_16
  | 17, _ => known_17
  | 18, _ => known_18
  | 19, _ => known_19
  | 20, _ => known_20
  | 21, _ => known_21
  | 22, _ => known_22
  | 23, _ => known_23
  | 24, _ => known_24
  | 25, _ => known_25
  | 26, _ => known_26
  | 27, _ => known_27
  | 28, _ => known_28
  | 29, _ => known_29
  | k + 30, h => by omega
end Go.Lite
