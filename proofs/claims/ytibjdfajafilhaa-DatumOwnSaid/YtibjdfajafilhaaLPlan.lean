/-
  Regions whose order is open: in which order the interpreter takes their operations, and what is looked at so that every order comes to the same; the slimmed code of a function.
-/
import Derived.Test.YtibjdfajafilhaaLSlim
namespace Go.Lite
open Go
set_option linter.unusedSimpArgs false
set_option linter.unusedVariables false

def SX.tmps : SX → List Nat
  | .tmp t => [t]
  | .lit _ => []

def tmpsL (l : List SX) : List Nat := l.flatMap SX.tmps
def tmpsO : Option SX → List Nat
  | none => []
  | some x => x.tmps
def tmpsP (l : List (Nat × Nat × SX)) : List Nat := l.flatMap fun p => p.2.2.tmps

def POp.tmps : POp → List Nat
  | .move x | .load1 x | .loadn _ x | .nilchk x | .not x | .neg x | .toInt _ x | .strOf x | .mkIface _ x | .faddr _ x | .field1 _ x | .fieldn _ _ x | .extract x _ | .lenT x | .lenS x | .assertT x _ | .assertOk x _ _ | .bytesStr x => x.tmps
  | .pick c a b => c.tmps ++ a.tmps ++ b.tmps
  | .build _ ps => tmpsP ps
  | .bin _ _ x y | .min2 x y | .max2 x y | .iaddr _ x y | .iaddrA _ _ x y | .indexT x y | .indexA1 _ x y => x.tmps ++ y.tmps
  | .closure _ cs => tmpsL cs
  | .sliceS _ x lo hi mx => x.tmps ++ tmpsO lo ++ tmpsO hi ++ tmpsO mx
  | .sliceT x lo hi => x.tmps ++ tmpsO lo ++ tmpsO hi

/-- does it look at the heap? -/
def POp.reads : POp → Bool
  | .load1 _ | .loadn _ _ | .bytesStr _ => true
  | _ => false

def AOp.tmps : AOp → List Nat
  | .newc _ _ => []
  | .box _ x | .strBytes x | .rangeT x => x.tmps
  | .buildS _ _ ps => tmpsP ps
  | .makeS _ _ l c => l.tmps ++ c.tmps

def WOp.tmps : WOp → List Nat
  | .store _ a x | .append _ _ _ a x => a.tmps ++ x.tmps
  | .nextT x => x.tmps

def SOp.tmps : SOp → List Nat
  | .p o => o.tmps
  | .a o => o.tmps
  | .w o => o.tmps
  | .call f as => f.tmps ++ tmpsL as
  | .panic x => x.tmps

def SOper.looks (o : SOper) : List Nat := (match o.guard with | some (t, _) => [t] | none => []) ++ o.op.tmps

def SOper.big (o : SOper) : Bool :=
  match o.op with
  | .p _ | .a _ => false
  | _ => true

def SOper.rereads (o : SOper) : Bool :=
  match o.op with
  | .p q => q.reads
  | _ => false

/-! ### The orders' frame -/

def edgesOf (o : Oper) : List Nat := (o.after.toList.filter fun e => Region.binds .any e).map (·.on)

def union (a b : List Nat) : List Nat := a.foldl (fun acc x => if acc.contains x then acc else x :: acc) b

/-- who must have come before each -/
def befOf : List Oper → List (List Nat) → List (List Nat)
  | [], acc => acc
  | o :: l, acc => befOf l (acc ++ [(edgesOf o).foldl (fun s d => union (d :: acc.getD d []) s) []])

structure Plan where
  pre : List Nat
  phs : List (Nat × List Nat × List Nat)

def bigsIn (bigs : List Nat) (b : List Nat) : Nat := (bigs.filter fun i => b.contains i).length

def planOf (sops : List SOper) (bef : List (List Nat)) : Plan :=
  let ix := List.range sops.length
  let isBig := fun i => (sops[i]?).any SOper.big
  let bigs := ix.filter isBig
  let phase := fun i => bigsIn bigs (bef.getD i [])
  let smalls := fun k => ix.filter fun i => !isBig i && phase i == k
  { pre := smalls 0
    phs := bigs.zipIdx.map fun (wi, k) =>
      (wi, ix.filter fun i => !isBig i && (sops[i]?).any SOper.rereads && decide (phase i ≤ k) && !(bef.getD wi []).contains i, smalls (k + 1)) }

def Plan.order (p : Plan) : List Nat := p.pre ++ p.phs.flatMap fun q => q.1 :: q.2.2

/-- each behind those that must have come before it, none twice -/
def extOk (bef : List (List Nat)) : List Nat → List Nat → Bool
  | _, [] => true
  | done, i :: l => !done.contains i && (bef.getD i []).all done.contains && extOk bef (i :: done) l

/-- the phases: what was taken ahead; the last writer -/
def phsOk (sops : List SOper) (bef : List (List Nat)) : List Nat → Option Nat → List (Nat × List Nat × List Nat) → Bool
  | _, _, [] => true
  | done, last, (wi, cks, sm) :: l =>
    (sops[wi]?).any SOper.big &&
    (match last with | none => true | some v => (bef.getD wi []).contains v) &&
    (done.all fun i => !(sops[i]?).any (fun o => !o.big && o.rereads) || (bef.getD wi []).contains i || cks.contains i) &&
    (cks.all fun i => done.contains i && (sops[i]?).any (fun o => !o.big && o.rereads && ((List.range sops.length).all fun j =>
      match (sops[j]?).bind (·.dst) with | some d => !o.looks.contains d || (bef.getD i []).contains j | none => true))) &&
    (sm.all fun i => (sops[i]?).any (fun o => !o.big) && (bef.getD i []).contains wi) &&
    phsOk sops bef (sm.reverse ++ wi :: done) (some wi) l

def planOk (ops : List Oper) (sops : List SOper) (bef : List (List Nat)) (p : Plan) : Bool :=
  let n := sops.length
  let ix := List.range n
  decide (bef.length = n) &&
  (ix.all fun i => (edgesOf (ops.getD i default)).all fun d => decide (d < i)) &&
  (ix.all fun i => (bef.getD i []).all fun j => (edgesOf (ops.getD i default)).any fun d => d == j || (bef.getD d []).contains j) &&
  (ix.all fun i => ix.all fun j => i == j || (match (sops[j]?).bind (·.dst) with
    | some d => ((sops[i]?).bind (·.dst) != some d) && (!(sops[i]?).any (fun o => o.looks.contains d) || (bef.getD i []).contains j || (bef.getD j []).contains i)
    | none => true)) &&
  (ix.all fun i => p.order.contains i) &&
  (p.order.all fun i => decide (i < n)) &&
  extOk bef [] p.order &&
  (p.pre.all fun i => (sops[i]?).any fun o => !o.big) &&
  phsOk sops bef p.pre.reverse none p.phs

def pickAll (sops : List SOper) : List Nat → Option (List SOper)
  | [] => some []
  | i :: l => (sops[i]?).bind fun o => (pickAll sops l).map (o :: ·)

def pickPhs (sops : List SOper) : List (Nat × List Nat × List Nat) → Option (List (SOper × List SOper × List SOper))
  | [] => some []
  | (wi, cks, sm) :: l => (sops[wi]?).bind fun o => (pickAll sops cks).bind fun c => (pickAll sops sm).bind fun s => (pickPhs sops l).map ((o, c, s) :: ·)

/-! ### Two stores at the end, in either order -/

def frameOk (ops : List Oper) (sops : List SOper) (bef : List (List Nat)) : Bool :=
  let n := sops.length
  let ix := List.range n
  decide (bef.length = n) &&
  (ix.all fun i => (edgesOf (ops.getD i default)).all fun d => decide (d < i)) &&
  (ix.all fun i => (bef.getD i []).all fun j => (edgesOf (ops.getD i default)).any fun d => d == j || (bef.getD d []).contains j) &&
  (ix.all fun i => ix.all fun j => i == j || (match (sops[j]?).bind (·.dst) with
    | some d => ((sops[i]?).bind (·.dst) != some d) && (!(sops[i]?).any (fun o => o.looks.contains d) || (bef.getD i []).contains j || (bef.getD j []).contains i)
    | none => true))

def splitTail : List (Nat × List Nat × List Nat) → Option (List (Nat × List Nat × List Nat) × Nat × Nat)
  | [(wi, _, []), (wj, _, [])] => some ([], wi, wj)
  | q :: l => (splitTail l).map fun r => (q :: r.1, r.2)
  | [] => none

def planOk2 (ops : List Oper) (sops : List SOper) (bef : List (List Nat)) (p : Plan) (wi wj : Nat) : Bool :=
  frameOk ops sops bef &&
  ((List.range sops.length).all fun i => p.order.contains i || i == wi || i == wj) &&
  extOk bef [] (p.order ++ [wi, wj]) && extOk bef [] (p.order ++ [wj, wi]) &&
  (p.pre.all fun i => (sops[i]?).any fun o => !o.big) &&
  phsOk sops bef p.pre.reverse none p.phs &&
  (sops[wi]?).any SOper.big && (sops[wj]?).any SOper.big &&
  (p.phs.all fun q => (bef.getD wi []).contains q.1 && (bef.getD wj []).contains q.1) &&
  (p.order.all fun i => !(sops[i]?).any (fun o => !o.big && o.rereads) || ((bef.getD wi []).contains i && (bef.getD wj []).contains i))

variable (P : Program)

def slimDraw (nt : Nat) (ops : Array Oper) : Option SCode :=
  (slimOpers P nt ops ops.toList).bind fun sops =>
    let bef := befOf ops.toList []
    let p := planOf sops bef
    bif planOk ops.toList sops bef p then (pickAll sops p.pre).bind fun pre => (pickPhs sops p.phs).map fun phs => .draw pre phs else
      (splitTail p.phs).bind fun q =>
        bif planOk2 ops.toList sops bef ⟨p.pre, q.1⟩ q.2.1 q.2.2 then
          (pickAll sops p.pre).bind fun pre => (pickPhs sops q.1).bind fun phs => (sops[q.2.1]?).bind fun a => (sops[q.2.2]?).map fun b => .draw2 pre phs a b
        else none

/-- what is not told: nothing is said of a run that comes here -/
def stuck : SCode := .ops [{ dst := none, guard := none, op := .p (.nilchk (.lit .undef)) }]

def orStuck : Option SCode → SCode
  | some c => c
  | none => stuck

def slimCode (nt : Nat) : Code → SCode
  | .skip => .skip
  | .region _ ops false => orStuck ((slimOpers P nt ops ops.toList).map .ops)
  | .region _ ops true => orStuck (slimDraw P nt ops)
  | .seq a b => .seq (slimCode nt a) (slimCode nt b)
  | .cond c a b => orStuck ((slimX P nt c).map fun c => .cond c (slimCode nt a) (slimCode nt b))
  | .block id c => .block id (slimCode nt c)
  | .loop c => .loop (slimCode nt c)
  | .exit id => .exit id
  | .ret => .ret
  | _ => stuck

theorem orStuck_cases {x : Option SCode} : (∃ c, x = some c ∧ orStuck x = c) ∨ (x = none ∧ orStuck x = stuck) := by
  cases x with
  | none => exact .inr ⟨rfl, rfl⟩
  | some c => exact .inl ⟨c, rfl, rfl⟩

theorem stuck_run {call : CallF} {n : Nat} {fr : Fr} {H : Heap} {K : Ex → Fr → Heap → R} : stuck.run call n fr H K = none := rfl

def slimRes : List ResultVar → Option (List ResV)
  | [] => some []
  | .tmp t :: l => (slimRes l).map (.tmp t :: ·)
  | .cell a t :: l => (aggT P t).bind fun g => (sizeT P t).bind fun s => (slimRes l).map ((bif g then .celln a s else .cell1 a) :: ·)

def slimFunc (fn : Func) : Option SFunc :=
  bif fn.name == "runtime.NumGoroutine" then none else
  fn.body.bind fun c => (slimRes P fn.results.toList).map fun r => { nt := fn.ntmps, body := slimCode P fn.ntmps c, res := r }

def slimPrg (own : FuncId → Option (List AV → Heap → R)) (mode : FuncId → Nat) : Prg := { code := fun f => (P.funcs[f]?).bind (slimFunc P), own := own, mode := mode }

end Go.Lite
