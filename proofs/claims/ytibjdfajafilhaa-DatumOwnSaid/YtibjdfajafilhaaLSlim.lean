/-
  From the program's code to the interpreter's.
-/
import Derived.Test.YtibjdfajafilhaaLRun
import GoSem.Core.Region
import GoSem.Core.Layout
import GoSem.Dispatch
namespace Go.Lite
open Go
set_option linter.unusedSimpArgs false
set_option linter.unusedVariables false

def absFlat : Value → Option AV
  | .bool b => some (.bool b)
  | .int k n => some (.int k n)
  | .string s => some (.str (s.data.toList.map (·.toNat)))
  | .pointer none => some .nilp
  | .slice none 0 0 => some .nils
  | .nilFunc => some .nilf
  | .nilIface => some .nili
  | .map none => some .nilm
  | _ => none

def absFlats : List Value → Option (List AV)
  | [] => some []
  | v :: vs => (absFlat v).bind fun x => (absFlats vs).map (x :: ·)

def absC : Value → Option AV
  | .agg cs => (absFlats cs.toList).map .agg
  | .tuple cs => (absFlats cs.toList).map .tuple
  | .iface t v => (absFlat v).map (.iface t)
  | v => absFlat v

variable (P : Program)

def sizeT (t : TypeId) : Option Nat := (P.info? t).map (·.size)

def zeroT (t : TypeId) : Option (List AV) := (P.info? t).bind fun i => i.zero.bind fun z =>
  if z.cells.size = i.size then absFlats z.cells.toList else none

def aggT (t : TypeId) : Option Bool := (P.underlying t).map fun | .struct _ | .array _ _ => true | _ => false

/-- one cell, compared as it stands: 0 a bool, 1 an int, 2 a string -/
def scalarT (t : TypeId) : Option Nat :=
  match P.underlying t with
  | some .bool => some 0
  | some (.int _) => some 1
  | some .string => some 2
  | _ => none

def eqFieldsT : List Field → Option (List (Nat × Nat))
  | [] => some []
  | f :: fs => if f.name ≠ "_" then (scalarT P f.type).bind fun q => (eqFieldsT fs).map ((f.offset, q) :: ·) else none

def eqT (t : TypeId) : Option EqT :=
  match P.underlying t with
  | some .bool => some .bool
  | some (.pointer _) => some .ptr
  | some (.slice _) => some .slc
  | some (.func ..) => some .fn
  | some (.int _) | some .string => some .none
  | some (.struct fs) => bif !P.stoodInHeld t && !P.eqGuardType P.depth t then (eqFieldsT P fs.toList).map .many else none
  | some (.array 1 e) => bif !P.eqGuardType P.depth t && (sizeT P e).isSome then (scalarT P e).map fun q => .many [(0, q)] else none
  | _ => none

/-- an operand; 'nt': how many temporaries there are -/
def slimX (nt : Nat) : Operand → Option SX
  | .tmp t => if t < nt then some (.tmp t) else none
  | .const v => (absC v).map .lit
  | .global g => if g < P.globals.size then some (.lit (.ptr (.old g) 0)) else none
  | .func f => some (.lit (.func f []))

def slimXs (nt : Nat) : List Operand → Option (List SX)
  | [] => some []
  | x :: xs => (slimX P nt x).bind fun y => (slimXs nt xs).map (y :: ·)

def slimXo (nt : Nat) : Option Operand → Option (Option SX)
  | none => some none
  | some x => (slimX P nt x).map some

def partsOf (nt : Nat) (place : Nat → Option (Nat × Nat)) : List (Nat × Operand) → Option (List (Nat × Nat × SX))
  | [] => some []
  | (i, x) :: rest => (place i).bind fun q => (slimX P nt x).bind fun y => (partsOf nt place rest).map ((q.1, q.2, y) :: ·)

def placesT (fs : List Field) : Option (List (Nat × Nat)) := fs.mapM fun f => (P.info? f.type).map fun i => (f.offset, i.size)

def slimP (nt : Nat) (op : Op) : Option POp :=
  match op with
  | .move x => (slimX P nt x).map .move
  | .assign x => (slimX P nt x).map .move
  | .pick c a b => (slimX P nt c).bind fun c => (slimX P nt a).bind fun a => (slimX P nt b).map fun b => .pick c a b
  | .build t parts => (zeroT P t).bind fun zs =>
    match P.underlying t with
    | some (.struct fs) => (placesT P fs.toList).bind fun pl => (partsOf P nt (fun i => pl[i]?) parts.toList).map fun ps => .build zs ps
    | some (.array _ e) => (sizeT P e).bind fun s => (partsOf P nt (fun i => some (i * s, s)) parts.toList).map fun ps => .build zs ps
    | _ => none
  | .load t a => (slimX P nt a).bind fun a => (aggT P t).bind fun g => (sizeT P t).map fun s => bif g then .loadn s a else .load1 a
  | .nilCheck x => (slimX P nt x).map .nilchk
  | .binOp op t x y _ => (slimX P nt x).bind fun x => (slimX P nt y).bind fun y =>
    match op with
    | .eql | .neq => (eqT P t).map fun e => .bin op e x y
    | _ => some (.bin op .none x y)
  | .unOp .not _ x => (slimX P nt x).map .not
  | .unOp .neg _ x => (slimX P nt x).map .neg
  | .convert src dst x => (slimX P nt x).bind fun x =>
    match P.underlying src, P.underlying dst with
    | some (.int _), some (.int k) => some (.toInt k x)
    | some .string, some .string => some (.strOf x)
    | some (.slice e), some .string => match P.underlying e with
      | some (.int .u8) => some (.bytesStr x)
      | _ => none
    | _, _ => none
  | .makeInterface t x => match P.underlying t with
    | some (.interface _) => none
    | some _ => (slimX P nt x).map fun x => .mkIface t x
    | none => none
  | .makeFunc (.func f) first caps => if first.isEmpty then (slimXs P nt caps.toList).map fun cs => .closure f cs else none
  | .slice t x lo hi mx => (slimX P nt x).bind fun x => (slimXo P nt lo).bind fun lo => (slimXo P nt hi).bind fun hi => (slimXo P nt mx).bind fun mx =>
    match P.underlying t with
    | some (.slice e) => (sizeT P e).bind fun s => match mx, hi with
      | some _, none => none
      | _, _ => some (.sliceS s x lo hi mx)
    | some .string => match mx with
      | none => some (.sliceT x lo hi)
      | some _ => none
    | _ => none
  | .fieldAddr t x f => (slimX P nt x).bind fun x =>
    match P.underlying t with
    | some (.struct fs) => (fs[f]?).bind fun f => (sizeT P f.type).bind fun s => if s = 0 then none else some (.faddr f.offset x)
    | _ => none
  | .field t x f => (slimX P nt x).bind fun x =>
    match P.underlying t with
    | some (.struct fs) => (fs[f]?).bind fun f => (sizeT P f.type).bind fun s => (aggT P f.type).map fun g => bif g then .fieldn f.offset s x else .field1 f.offset x
    | _ => none
  | .indexAddr t x i => (slimX P nt x).bind fun x => (slimX P nt i).bind fun i =>
    match P.underlying t with
    | some (.slice e) => (sizeT P e).map fun s => .iaddr s x i
    | some (.array n e) => (sizeT P e).map fun s => .iaddrA n s x i
    | _ => none
  | .index t x i => (slimX P nt x).bind fun x => (slimX P nt i).bind fun i =>
    match P.underlying t with
    | some .string => some (.indexT x i)
    | some (.array n e) => (sizeT P e).bind fun s => (aggT P e).bind fun g => if s = 1 ∧ g = false then some (.indexA1 n x i) else none
    | _ => none
  | .extract x i => (slimX P nt x).map fun x => .extract x i
  | .typeAssert x _ t ok => (slimX P nt x).bind fun x =>
    match P.underlying t with
    | some (.interface _) => none
    | some _ => bif ok then (P.info? t).bind fun i => i.zero.bind fun z => (absC z).map fun z => .assertOk x t z else some (.assertT x t)
    | none => none
  | .call { callee := .builtin .len, args, argTypes } => (args[0]?).bind fun x => (slimX P nt x).bind fun x => (argTypes[0]?).bind fun t =>
    match P.underlying t with
    | some .string => some (.lenT x)
    | some (.slice _) => some (.lenS x)
    | _ => none
  | .call { callee := .builtin .min, args, .. } => match args.toList with
    | [x, y] => (slimX P nt x).bind fun x => (slimX P nt y).map fun y => .min2 x y
    | _ => none
  | .call { callee := .builtin .max, args, .. } => match args.toList with
    | [x, y] => (slimX P nt x).bind fun x => (slimX P nt y).map fun y => .max2 x y
    | _ => none
  | _ => none

def slimA (nt : Nat) (op : Op) : Option AOp :=
  match op with
  | .alloc t => (zeroT P t).map (.newc t)
  | .box t x => (slimX P nt x).map (.box t)
  | .buildSlice t len parts =>
    match P.underlying t with
    | some (.slice e) => (sizeT P e).bind fun s => (zeroT P e).bind fun zs =>
      if s ≠ 0 ∧ len * s ≤ 16777216 then (partsOf P nt (fun i => some (i * s, s)) parts.toList).map fun ps => .buildS (rep zs len) len ps else none
    | _ => none
  | .makeSlice t l c => (slimX P nt l).bind fun l => (slimX P nt c).bind fun c =>
    match P.underlying t with
    | some (.slice e) => (P.info? e).bind fun i => (zeroT P e).bind fun zs => if i.size = 0 then none else some (.makeS zs i.bytes l c)
    | _ => none
  | .convert src dst x => (slimX P nt x).bind fun x =>
    match P.underlying src, P.underlying dst with
    | some .string, some (.slice e) => match P.underlying e with
      | some (.int .u8) => some (.strBytes x)
      | _ => none
    | _, _ => none
  | .range t x => (slimX P nt x).bind fun x =>
    match P.underlying t with
    | some .string => some (.rangeT x)
    | _ => none
  | _ => none

def slimW (nt : Nat) (op : Op) : Option WOp :=
  match op with
  | .store t a x => (slimX P nt a).bind fun a => (slimX P nt x).bind fun x => (sizeT P t).map fun s => .store s a x
  | .next it isString => bif isString then (slimX P nt it).map .nextT else none
  | .call { callee := .builtin .append, args, argTypes } => match args.toList, argTypes.toList with
    | [s, x], [t, u] => (slimX P nt s).bind fun s => (slimX P nt x).bind fun x =>
      match P.underlying t, P.underlying u with
      | some (.slice e), some (.slice _) | some (.slice e), some .string => (P.info? e).bind fun i => (zeroT P e).bind fun zs =>
        if i.bytes ≤ 1048576 then some (.append e i.size i.bytes s x) else none
      | _, _ => none
    | _, _ => none
  | _ => none

def slimOp (nt : Nat) (op : Op) : Option SOp :=
  match slimP P nt op with
  | some o => some (.p o)
  | none => match slimA P nt op with
    | some o => some (.a o)
    | none => match slimW P nt op with
      | some o => some (.w o)
      | none => match op with
        | .call { callee := .value f, args, .. } => (slimX P nt f).bind fun f => (slimXs P nt args.toList).map fun as => .call f as
        | .panic x => (slimX P nt x).map .panic
        | _ => none

def slimGuard (nt : Nat) (ops : Array Oper) : Option (Nat × Bool) → Option (Option (Nat × Bool))
  | none => some none
  | some (j, b) => ((ops[j]?).bind (·.dst)).bind fun (t : Nat) => if t < nt then some (some (t, b)) else none

def slimDst (nt : Nat) : Option Nat → Bool
  | none => true
  | some d => decide (d < nt)

def slimOper (nt : Nat) (ops : Array Oper) (o : Oper) : Option SOper :=
  bif slimDst nt o.dst then (slimGuard nt ops o.guard).bind fun g => (slimOp P nt o.op).map fun q => { dst := o.dst, guard := g, op := q } else none

def slimOpers (nt : Nat) (ops : Array Oper) : List Oper → Option (List SOper)
  | [] => some []
  | o :: l => (slimOper P nt ops o).bind fun q => (slimOpers nt ops l).map (q :: ·)

end Go.Lite
