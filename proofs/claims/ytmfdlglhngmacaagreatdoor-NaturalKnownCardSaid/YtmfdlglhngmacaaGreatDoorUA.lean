/-
  Several texts in one: LBase, LRun, LRel, LCanon, LSlim, LPlan, LCong, LOpsP, LOpsB, LOpsC, LOpsD.
-/
import GoSem.Core.View
import GoSem.Core.Code
import GoSem.Core.Utf8
import Derived.Calls
import Derived.Orders
import Derived.Laws.Sem
import GoSem.Core.Region
import GoSem.Core.Layout
import GoSem.Dispatch
import Derived.Deep.AppendSrc
import Derived.Deep.MidRow
import Derived.Lib.Strings
import Derived.Laws.StructEq
import Derived.Laws.BytesString
import Derived.Laws.IdiomStrings

set_option linter.unusedSimpArgs false
set_option linter.unusedVariables false
set_option linter.defProp false
set_option maxRecDepth 100000

/-
  An interpreter over a slimmed form of the program's code: values, heap, operations. Plain definitions and the small laws of tries; nothing of a program stands here.
-/
namespace Go.Lite
open Go
/-! ### Tries over numbers -/
inductive T (α : Type) where
  | nil
  | node (v : Option α) (l r : T α)
namespace T
variable {α : Type}
def get : T α → Nat → Option α
  | .nil, _ => none
  | .node v _ _, 0 => v
  | .node _ l r, k + 1 => match k % 2 with
    | 0 => l.get (k / 2)
    | _ => r.get (k / 2)
def single : Nat → Nat → α → T α
  | 0, _, _ => .nil
  | _ + 1, 0, x => .node (some x) .nil .nil
  | n + 1, k + 1, x => match k % 2 with
    | 0 => .node none (single n (k / 2) x) .nil
    | _ => .node none .nil (single n (k / 2) x)
def set : T α → Nat → α → T α
  | .nil, k, x => single (k + 1) k x
  | .node _ l r, 0, x => .node (some x) l r
  | .node v l r, k + 1, x => match k % 2 with
    | 0 => .node v (l.set (k / 2) x) r
    | _ => .node v l (r.set (k / 2) x)
def del : T α → Nat → T α
  | .nil, _ => .nil
  | .node _ l r, 0 => .node none l r
  | .node v l r, k + 1 => match k % 2 with
    | 0 => .node v (l.del (k / 2)) r
    | _ => .node v l (r.del (k / 2))
theorem get_nil (k : Nat) : (T.nil : T α).get k = none := rfl
theorem get_single (n : Nat) : ∀ (k : Nat) (x : α) (j : Nat), k < n → (single n k x).get j = if j = k then some x else none := by
  induction n with
  | zero => intro k x j h; omega
  | succ n ih =>
    intro k x j h
    match k, j with
    | 0, 0 => simp [single, get]
    | 0, j + 1 => simp only [single, get]; split <;> simp [get]
    | k + 1, 0 => simp only [single]; split <;> simp [get]
    | k + 1, j + 1 =>
      simp only [single]
      have hk : k / 2 < n := by omega
      split <;> rename_i hk2
      · simp only [get]; split <;> rename_i hj2
        · rw [ih _ _ _ hk]; by_cases e : j = k
          · subst e; simp
          · have : ¬ j / 2 = k / 2 := by omega
            simp [e, this]
        · have e : ¬ j = k := fun e => by subst e; exact hj2 hk2
          simp [get, e]
      · simp only [get]; split <;> rename_i hj2
        · have e : ¬ j = k := fun e => by subst e; exact hk2 hj2
          simp [get, e]
        · rw [ih _ _ _ hk]; by_cases e : j = k
          · subst e; simp
          · have h1 : ¬ k % 2 = 0 := hk2
            have h2 : ¬ j % 2 = 0 := hj2
            have : ¬ j / 2 = k / 2 := by omega
            simp [e, this]
theorem get_set (t : T α) : ∀ (k : Nat) (x : α) (j : Nat), (t.set k x).get j = if j = k then some x else t.get j := by
  induction t with
  | nil => intro k x j; simp only [set, get_single (k + 1) k x j (by omega), get]
  | node v l r ihl ihr =>
    intro k x j
    match k, j with
    | 0, 0 => simp [set, get]
    | 0, j + 1 => simp [set, get]
    | k + 1, 0 => simp only [set]; split <;> simp [get]
    | k + 1, j + 1 =>
      simp only [set]
      split <;> rename_i hk2
      · simp only [get]; split <;> rename_i hj2
        · rw [ihl]; by_cases e : j = k
          · subst e; simp
          · have : ¬ j / 2 = k / 2 := by omega
            simp [e, this]
        · have e : ¬ j = k := fun e => by subst e; exact hj2 hk2
          simp [e]
      · simp only [get]; split <;> rename_i hj2
        · have e : ¬ j = k := fun e => by subst e; exact hk2 hj2
          simp [e]
        · rw [ihr]; by_cases e : j = k
          · subst e; simp
          · have h1 : ¬ k % 2 = 0 := hk2
            have h2 : ¬ j % 2 = 0 := hj2
            have : ¬ j / 2 = k / 2 := by omega
            simp [e, this]
theorem set_comm (t : T α) : ∀ (i j : Nat) (x y a b : α), i ≠ j → t.get i = some a → t.get j = some b → (t.set i x).set j y = (t.set j y).set i x := by
  induction t with
  | nil => intro i j x y a b _ h; cases h
  | node v l r ihl ihr =>
    intro i j x y a b hij hi hj
    match i, j with
    | 0, 0 => exact absurd rfl hij
    | 0, j + 1 => simp only [set]; split <;> rfl
    | i + 1, 0 => simp only [set]; split <;> rfl
    | i + 1, j + 1 =>
      simp only [get] at hi hj
      simp only [set]
      split at hi <;> rename_i h1 <;> split at hj <;> rename_i h2
      · simp only [h1, h2, set]
        rw [ihl (i / 2) (j / 2) x y a b (fun e => hij (by omega)) hi hj]
      · simp only [h1, set]
      · simp only [h2, set]
      · have : ¬ i / 2 = j / 2 := fun e => hij (by have : ¬ i % 2 = 0 := h1; have : ¬ j % 2 = 0 := h2; omega)
        simp only [set]
        rw [ihr (i / 2) (j / 2) x y a b this hi hj]
theorem get_del (t : T α) : ∀ (k j : Nat), (t.del k).get j = if j = k then none else t.get j := by
  induction t with
  | nil => intro k j; simp [del, get]
  | node v l r ihl ihr =>
    intro k j
    match k, j with
    | 0, 0 => simp [del, get]
    | 0, j + 1 => simp [del, get]
    | k + 1, 0 => simp only [del]; split <;> simp [get]
    | k + 1, j + 1 =>
      simp only [del]
      split <;> rename_i hk2
      · simp only [get]; split <;> rename_i hj2
        · rw [ihl]; by_cases e : j = k
          · subst e; simp
          · have : ¬ j / 2 = k / 2 := by omega
            simp [e, this]
        · have e : ¬ j = k := fun e => by subst e; exact hj2 hk2
          simp [e]
      · simp only [get]; split <;> rename_i hj2
        · have e : ¬ j = k := fun e => by subst e; exact hk2 hj2
          simp [e]
        · rw [ihr]; by_cases e : j = k
          · subst e; simp
          · have h1 : ¬ k % 2 = 0 := hk2
            have h2 : ¬ j % 2 = 0 := hj2
            have : ¬ j / 2 = k / 2 := by omega
            simp [e, this]
end T
/-! ### Values, heap -/
inductive Cap where
  | fix (c es : Nat)
  | gro (es : Nat)
mutual
inductive Blk where
  | old (b : Nat)
  | new (k : Nat)
  | val (cs : List AV)
inductive AV where
  | undef
  | bool (b : Bool)
  | int (k : IntKind) (n : Int)
  | str (s : List Nat)
  | nilp
  | ptr (p : Blk) (o : Nat)
  | nils
  | slice (p : Blk) (o n : Nat) (c : Cap)
  | emp
  | func (f : FuncId) (caps : List AV)
  | nilf
  | iface (t : TypeId) (v : AV)
  | nili
  | agg (cs : List AV)
  | tuple (vs : List AV)
  | nilm
  | map (k : Nat)
  | lst (es n : Nat) (full : Bool) (cs : List AV)
end
inductive Obj where
  | row (cells : List AV) (es : Nat) (fz : Bool) (ty : Option Nat)
  | iter (s : List Nat) (pos : Nat)
def Obj.cells : Obj → Option (List AV)
  | .row cs _ _ _ => some cs
  | .iter _ _ => none
structure Heap where
  base : Nat → Option (List AV)
  t : T Obj
  n : Nat
def Heap.cells (H : Heap) : Blk → Option (List AV)
  | .old b => H.base b
  | .new k => (H.t.get k).bind (·.cells)
  | .val cs => some cs
def Heap.push (H : Heap) (o : Obj) : Heap := { base := H.base, t := H.t.set H.n o, n := H.n + 1 }
def Heap.put (H : Heap) (k : Nat) (o : Obj) : Heap := { base := H.base, t := H.t.set k o, n := H.n }
def Heap.del (H : Heap) (k : Nat) : Heap := { base := H.base, t := H.t.del k, n := H.n }
def Heap.ld1 (H : Heap) (p : Blk) (o : Nat) : Option AV := (H.cells p).bind (·[o]?)
def Heap.ldn (H : Heap) (p : Blk) (o n : Nat) : Option (List AV) :=
  (H.cells p).bind fun cs => if ((cs.drop o).take n).length = n then some ((cs.drop o).take n) else none
def putAt (cs : List AV) (o : Nat) (vs : List AV) : List AV := cs.take o ++ vs ++ cs.drop (o + vs.length)
def Heap.st (H : Heap) (p : Blk) (o : Nat) (vs : List AV) : Option Heap :=
  match p with
  | .old _ => none
  | .val _ => none
  | .new k => match H.t.get k with
    | some (.row cs es false ty) => if o + vs.length ≤ cs.length then some (H.put k (.row (putAt cs o vs) es false ty)) else none
    | _ => none
def AV.cells : AV → Option (List AV)
  | .undef => none
  | .agg cs => some cs
  | v => some [v]
def AV.flat : AV → Bool
  | .agg _ | .tuple _ | .undef => false
  | _ => true
/-! ### Readings of values -/
def AV.asPtr : AV → Option (Blk × Nat)
  | .ptr p o => some (p, o)
  | _ => none
def AV.asBool : AV → Option Bool
  | .bool b => some b
  | _ => none
def AV.asInt : AV → Option Int
  | .int _ n => some n
  | _ => none
def AV.asNat : AV → Option Nat
  | .int _ n => if 0 ≤ n then some n.toNat else none
  | _ => none
def AV.asStr : AV → Option (List Nat)
  | .str s => some s
  | _ => none
/-! ### Arithmetic -/
def intBits (op : BinOp) (k : IntKind) (x y : Int) : Option Int :=
  let a := BitVec.ofInt k.bits x
  let b := BitVec.ofInt k.bits y
  match op with
  | .and => some (k.wrap (a &&& b).toNat)
  | .or => some (k.wrap (a ||| b).toNat)
  | .xor => some (k.wrap (a ^^^ b).toNat)
  | .andNot => some (k.wrap (a &&& ~~~b).toNat)
  | _ => none
def intBin (op : BinOp) (k : IntKind) (x y : Int) : Option AV :=
  match op with
  | .add => some (.int k (k.wrap (x + y)))
  | .sub => some (.int k (k.wrap (x - y)))
  | .mul => some (.int k (k.wrap (x * y)))
  | .quo => if y = 0 then none else some (.int k (k.wrap (x.tdiv y)))
  | .rem => if y = 0 then none else some (.int k (x.tmod y))
  | .eql => some (.bool (x == y))
  | .neq => some (.bool (x != y))
  | .lss => some (.bool (decide (x < y)))
  | .leq => some (.bool (decide (x ≤ y)))
  | .gtr => some (.bool (decide (x > y)))
  | .geq => some (.bool (decide (x ≥ y)))
  | op => (intBits op k x y).map fun n => .int k n
def shiftBin (op : BinOp) (k : IntKind) (x y : Int) : Option AV :=
  if y < 0 then none else
    let n := min y.toNat k.bits
    match op with
    | .shl => some (.int k (k.wrap (x * 2 ^ n)))
    | .shr => some (.int k (x.fdiv (2 ^ n)))
    | _ => none
def less : List Nat → List Nat → Bool
  | _, [] => false
  | [], _ :: _ => true
  | a :: x, b :: y => Nat.blt a b || (a == b && less x y)
def strBin (op : BinOp) (x y : List Nat) : Option AV :=
  match op with
  | .add => if x.length + y.length ≤ 4611686018427387904 then some (.str (x ++ y)) else none
  | .eql => some (.bool (x == y))
  | .neq => some (.bool (!(x == y)))
  | .lss => some (.bool (less x y))
  | .leq => some (.bool (less x y || x == y))
  | .gtr => some (.bool (!(less x y || x == y)))
  | .geq => some (.bool (!less x y))
  | _ => none
inductive EqT where
  | none
  | bool
  | ptr
  | slc
  | fn
  | many (offs : List (Nat × Nat))
def eq1 : Nat → AV → AV → Option Bool
  | 0, .bool a, .bool b => some (a == b)
  | 1, .int k a, .int k' b => if k = k' then some (a == b) else .none
  | 2, .str a, .str b => some (a == b)
  | _, _, _ => .none
def eqMany : List (Nat × Nat) → List AV → List AV → Option Bool
  | [], _, _ => some true
  | (o, q) :: os, xs, ys => (xs[o]?).bind fun x => (ys[o]?).bind fun y => (eq1 q x y).bind fun b => (eqMany os xs ys).map fun c => b && c
def eqv : EqT → AV → AV → Option Bool
  | .many offs, .agg xs, .agg ys => eqMany offs xs ys
  | .bool, .bool a, .bool b => some (a == b)
  | .ptr, .nilp, .nilp => some true
  | .ptr, .nilp, .ptr _ _ => some false
  | .ptr, .ptr _ _, .nilp => some false
  | .slc, .nils, .nils => some true
  | .slc, .nils, .slice _ _ _ _ => some false
  | .slc, .slice _ _ _ _, .nils => some false
  | .slc, .nils, .emp => some false
  | .slc, .emp, .nils => some false
  | .slc, .nils, .lst _ (_ + 1) _ _ => some false
  | .slc, .lst _ (_ + 1) _ _, .nils => some false
  | .fn, .nilf, .nilf => some true
  | .fn, .nilf, .func _ _ => some false
  | .fn, .func _ _, .nilf => some false
  | _, _, _ => .none
def bin (op : BinOp) (t : EqT) (x y : AV) : Option AV :=
  match x, y with
  | .int k a, .int k' b => match op with
    | .shl => shiftBin op k a b
    | .shr => shiftBin op k a b
    | op => if k = k' then intBin op k a b else .none
  | .str a, .str b => strBin op a b
  | x, y => match op with
    | .eql => (eqv t x y).map .bool
    | .neq => (eqv t x y).map fun b => .bool (!b)
    | _ => .none
end Go.Lite

/-
  An interpreter over a slimmed form of the program's code: operations, code, runs.
-/
namespace Go.Lite
open Go
inductive SX where
  | tmp (t : Nat)
  | lit (v : AV)
abbrev Fr := Nat → AV
def SX.ev (fr : Fr) : SX → AV
  | .tmp t => fr t
  | .lit v => v
def Fr.set (fr : Fr) (t : Nat) (v : AV) : Fr := fun s => bif Nat.beq s t then v else fr s
def Fr.put (fr : Fr) (d : Option Nat) (v : AV) : Fr :=
  match d with
  | some t => fr.set t v
  | none => fr
/-! ### Operations that leave the heap alone -/
inductive POp where
  | move (x : SX)
  | pick (c a b : SX)
  | build (zs : List AV) (parts : List (Nat × Nat × SX))
  | load1 (a : SX)
  | loadn (n : Nat) (a : SX)
  | nilchk (x : SX)
  | bin (op : BinOp) (t : EqT) (x y : SX)
  | not (x : SX)
  | neg (x : SX)
  | toInt (k : IntKind) (x : SX)
  | strOf (x : SX)
  | mkIface (t : TypeId) (x : SX)
  | closure (f : FuncId) (caps : List SX)
  | sliceS (size : Nat) (x : SX) (lo hi mx : Option SX)
  | sliceT (x : SX) (lo hi : Option SX)
  | faddr (off : Nat) (x : SX)
  | field1 (off : Nat) (x : SX)
  | fieldn (off n : Nat) (x : SX)
  | iaddr (size : Nat) (x i : SX)
  | iaddrA (ln size : Nat) (x i : SX)
  | indexT (x i : SX)
  | indexA1 (ln : Nat) (x i : SX)
  | extract (x : SX) (i : Nat)
  | lenT (x : SX)
  | lenS (x : SX)
  | min2 (x y : SX)
  | max2 (x y : SX)
  | assertT (x : SX) (t : TypeId)
  | assertOk (x : SX) (t : TypeId) (z : AV)
  | bytesStr (x : SX)
def fillAt (cs : List AV) : List (Nat × Nat × AV) → Option (List AV)
  | [] => some cs
  | (off, size, v) :: rest => v.cells.bind fun vs => if vs.length = size ∧ off + vs.length ≤ cs.length then fillAt (putAt cs off vs) rest else none
def bnd (fr : Fr) (d : Nat) : Option SX → Option Nat
  | none => some d
  | some x => (x.ev fr).asNat
def capOf : Cap → Nat → Nat
  | .fix c _, _ => c
  | .gro _, n => n
def sliceOf (size : Nat) (v : AV) (l h : Option Nat) (m : Option Nat) : Option AV :=
  match v with
  | .nils => match l.getD 0, h.getD 0, m.getD 0 with
    | 0, 0, 0 => some .nils
    | _, _, _ => none
  | .emp => match l.getD 0, h.getD 0, m.getD 0 with
    | 0, 0, 0 => some .emp
    | _, _, _ => none
  | .slice p o n c =>
    let cp := capOf c n
    let mm := m.getD cp
    let hh := h.getD n
    let ll := l.getD 0
    if ll ≤ hh ∧ hh ≤ mm ∧ mm ≤ cp then
      match c, m with
      | .gro es, none => if ll = 0 ∨ ll < hh then some (.slice p (o + ll * size) (hh - ll) (.gro (if es = size then es else 0))) else some .emp
      | _, _ => some (.slice p (if mm = ll then o else o + ll * size) (hh - ll) (.fix (mm - ll) size))
    else none
  | .lst es n f cs =>
    let hh := h.getD n
    let ll := l.getD 0
    let mm := m.getD n
    if ll ≤ hh ∧ hh ≤ mm ∧ mm ≤ n ∧ (es = size ∨ n = 0) then some (.lst es (hh - ll) (bif f then Nat.beq mm hh else (match m with | none => false | some m => Nat.beq m hh)) ((cs.drop (ll * es)).take ((hh - ll) * es))) else none
  | _ => none
def optNat (fr : Fr) : Option SX → Option (Option Nat)
  | none => some none
  | some x => ((x.ev fr).asNat).map some
def bytesOf : List AV → Option (List Nat)
  | [] => some []
  | .int .u8 (.ofNat n) :: vs => if n < 256 then (bytesOf vs).map (n :: ·) else none
  | _ :: _ => none
def strOfBytes (H : Heap) : AV → Option AV
  | .nils => some (.str [])
  | .emp => some (.str [])
  | .slice p o n _ => (H.ldn p o n).bind fun cs => (bytesOf cs).map .str
  | .lst es n _ cs => if es = 1 ∨ n = 0 then (bytesOf cs).map .str else none
  | _ => none
def iaddrV (size : Nat) (v : AV) (j : Nat) : Option AV :=
  match v with
  | .slice p o n _ => if j < n then some (.ptr p (o + j * size)) else none
  | .lst es n _ cs => if j < n ∧ es = size then some (.ptr (.val ((cs.drop (j * es)).take es)) 0) else none
  | _ => none
def POp.val (o : POp) (fr : Fr) (H : Heap) : Option AV :=
  match o with
  | .move x => some (x.ev fr)
  | .pick c a b => (c.ev fr).asBool.map fun t => bif t then a.ev fr else b.ev fr
  | .build zs parts => (fillAt zs (parts.map fun p => (p.1, p.2.1, p.2.2.ev fr))).map .agg
  | .load1 a => (a.ev fr).asPtr.bind fun q => H.ld1 q.1 q.2
  | .loadn n a => (a.ev fr).asPtr.bind fun q => (H.ldn q.1 q.2 n).map .agg
  | .nilchk x => match x.ev fr with
    | .ptr p o => some (.ptr p o)
    | .func f cs => some (.func f cs)
    | .iface t v => some (.iface t v)
    | _ => none
  | .bin op t x y => Lite.bin op t (x.ev fr) (y.ev fr)
  | .not x => (x.ev fr).asBool.map fun b => .bool (!b)
  | .neg x => match x.ev fr with
    | .int k n => some (.int k (k.wrap (0 - n)))
    | _ => none
  | .toInt k x => match x.ev fr with
    | .int _ n => some (.int k (k.wrap n))
    | _ => none
  | .strOf x => (x.ev fr).asStr.map .str
  | .mkIface t x => some (.iface t (x.ev fr))
  | .closure f caps => some (.func f (caps.map (·.ev fr)))
  | .sliceS size x lo hi mx => (optNat fr lo).bind fun l => (optNat fr hi).bind fun h => (optNat fr mx).bind fun m => sliceOf size (x.ev fr) l h m
  | .sliceT x lo hi => (x.ev fr).asStr.bind fun s => (bnd fr 0 lo).bind fun l => (bnd fr s.length hi).bind fun h =>
    if l ≤ h ∧ h ≤ s.length then some (.str ((s.drop l).take (h - l))) else none
  | .faddr off x => (x.ev fr).asPtr.map fun q => .ptr q.1 (q.2 + off)
  | .field1 off x => match x.ev fr with
    | .agg cs => cs[off]?
    | _ => none
  | .fieldn off n x => match x.ev fr with
    | .agg cs => some (.agg ((cs.drop off).take n))
    | _ => none
  | .iaddr size x i => (i.ev fr).asNat.bind fun j => iaddrV size (x.ev fr) j
  | .iaddrA ln size x i => (x.ev fr).asPtr.bind fun q => (i.ev fr).asNat.bind fun j => if j < ln then some (.ptr q.1 (q.2 + j * size)) else none
  | .indexT x i => (x.ev fr).asStr.bind fun s => (i.ev fr).asNat.bind fun j => (s[j]?).map fun (b : Nat) => AV.int .u8 (b : Int)
  | .indexA1 ln x i => match x.ev fr with
    | .agg cs => (i.ev fr).asNat.bind fun j => if j < ln then cs[j]? else none
    | _ => none
  | .extract x i => match x.ev fr with
    | .tuple vs => vs[i]?
    | _ => none
  | .lenT x => (x.ev fr).asStr.map fun s => .int .i64 s.length
  | .lenS x => match x.ev fr with
    | .slice _ _ n _ => some (.int .i64 n)
    | .nils => some (.int .i64 0)
    | .emp => some (.int .i64 0)
    | .lst _ n _ _ => some (.int .i64 n)
    | _ => none
  | .min2 x y => match x.ev fr, y.ev fr with
    | .int k a, .int _ b => some (.int k (if b < a then b else a))
    | _, _ => none
  | .max2 x y => match x.ev fr, y.ev fr with
    | .int k a, .int _ b => some (.int k (if b > a then b else a))
    | _, _ => none
  | .assertT x t => match x.ev fr with
    | .iface u v => if u = t then some v else none
    | _ => none
  | .assertOk x t z => match x.ev fr with
    | .iface u v => some (if u = t then .tuple [v, .bool true] else .tuple [z, .bool false])
    | .nili => some (.tuple [z, .bool false])
    | _ => none
  | .bytesStr x => strOfBytes H (x.ev fr)
/-! ### Content -/
mutual
def AV.pure : AV → Bool
  | .undef => false
  | .ptr p _ => p.pure
  | .slice p _ _ _ => p.pure
  | .agg cs => pures cs
  | .tuple cs => pures cs
  | .func _ cs => pures cs
  | .iface _ v => v.pure
  | _ => true
def Blk.pure : Blk → Bool
  | .new _ => false
  | _ => true
def pures : List AV → Bool
  | [] => true
  | v :: vs => v.pure && pures vs
end
def AV.L (f : Bool) (es : Nat) (cs : List AV) : Nat → AV
  | 0 => .lst 0 0 f []
  | n + 1 => .lst es (n + 1) false cs
def canon : AV → Option AV
  | .nils => some (.lst 0 0 true [])
  | .emp => some (.lst 0 0 false [])
  | .lst es n f cs => some (.L f es cs n)
  | v => if v.pure = true then some v else none
def canonL : List AV → Option (List AV)
  | [] => some []
  | c :: cs => (canon c).bind fun y => (canonL cs).map (y :: ·)
def keepK (c : AV) : Option AV :=
  match c with
  | .lst _ (_ + 1) true _ => none
  | c => canon c
def layOf : List AV → Option (List AV)
  | [] => some []
  | c :: cs => (keepK c).bind fun y => (layOf cs).map (y :: ·)
theorem keepK_canon {c y : AV} (h : keepK c = some y) : canon c = some y := by
  unfold keepK at h
  split at h
  · cases h
  · exact h
theorem layOf_canonL : ∀ {cs ds : List AV}, layOf cs = some ds → canonL cs = some ds
  | [], ds, h => h
  | c :: cs, ds, h => by
    simp only [layOf, Option.bind_eq_some_iff, Option.map_eq_some_iff] at h
    obtain ⟨y, hy, zs, hz, rfl⟩ := h
    simp only [canonL, keepK_canon hy, layOf_canonL hz, Option.bind_some, Option.map_some]
/-! ### Operations that make a block -/
inductive AOp where
  | newc (t : Nat) (zs : List AV)
  | box (t : Nat) (x : SX)
  | buildS (zs : List AV) (len : Nat) (parts : List (Nat × Nat × SX))
  | makeS (zs : List AV) (bytes : Nat) (l c : SX)
  | strBytes (x : SX)
  | rangeT (x : SX)
def rep (zs : List AV) : Nat → List AV
  | 0 => []
  | n + 1 => zs ++ rep zs n
def lay (k es len : Nat) (cs : List AV) : Option (List AV) → Obj × AV
  | some ds => (.row ds 0 true none, bif Nat.beq len 0 then .lst 0 0 true [] else .lst es len true ds)
  | none => (.row cs 0 false none, .slice (.new k) 0 len (.fix len es))
def AOp.val (o : AOp) (fr : Fr) (k : Nat) : Option (Obj × AV) :=
  match o with
  | .newc t zs => some (.row zs 0 false (some t), .ptr (.new k) 0)
  | .box t x => (x.ev fr).cells.map fun cs => (.row cs 0 false (some t), .ptr (.new k) 0)
  | .buildS zs len parts => (fillAt zs (parts.map fun p => (p.1, p.2.1, p.2.2.ev fr))).map fun cs => lay k (zs.length / len) len cs (layOf cs)
  | .makeS zs bytes l c => (l.ev fr).asNat.bind fun l => (c.ev fr).asNat.bind fun c =>
    if l ≤ c ∧ c * bytes ≤ 1099511627776 ∧ c ≤ 1099511627776 then some (.row (rep zs c) 0 false none, .slice (.new k) 0 l (.fix c zs.length)) else none
  | .strBytes x => (x.ev fr).asStr.bind fun s => if s.length ≤ 1099511627776 then some (.row (s.map fun (b : Nat) => AV.int .u8 (b : Int)) 1 false none, .slice (.new k) 0 s.length (.gro 1)) else none
  | .rangeT x => (x.ev fr).asStr.map fun s => (.iter s 0, .ptr (.new k) 0)
/-! ### Operations that write -/
inductive WOp where
  | store (size : Nat) (a x : SX)
  | append (e size bytes : Nat) (s x : SX)
  | nextT (it : SX)
def taken (size : Nat) (H : Heap) : AV → Option (Nat × List AV)
  | .nils => some (0, [])
  | .emp => some (0, [])
  | .slice p o n _ => (H.ldn p o (n * size)).map fun cs => (n, cs)
  | .lst es n _ cs => if es = size ∨ n = 0 then some (n, cs) else none
  | .str s => if size = 1 then some (s.length, s.map fun (b : Nat) => AV.int .u8 (b : Int)) else none
  | _ => none
def Heap.fresh (H : Heap) (size need : Nat) (ty : Option Nat) (cs : List AV) : AV × Heap :=
  (.slice (.new H.n) 0 need (.gro size), H.push (.row cs size false ty))
def tyKeep (e o : Nat) : Option Nat → Option Nat
  | some t => bif Nat.beq t e && Nat.beq o 0 then some e else none
  | none => none
theorem tyKeep_spec {e o : Nat} {ty : Option Nat} {t : Nat} (h : tyKeep e o ty = some t) : t = e ∧ o = 0 ∧ ty = some e := by
  cases ty with
  | none => cases h
  | some u =>
    simp only [tyKeep] at h
    cases hb : Nat.beq u e && Nat.beq o 0 with
    | false => rw [hb] at h; cases h
    | true =>
      rw [hb] at h
      simp only [cond_true, Option.some.injEq] at h
      simp only [Bool.and_eq_true] at hb
      have h1 := Nat.eq_of_beq_eq_true hb.1
      have h2 := Nat.eq_of_beq_eq_true hb.2
      subst h1
      exact ⟨h.symm, h2, rfl⟩
def appendOf (e size bytes : Nat) (H : Heap) (s : AV) (x : Nat × List AV) : Option (AV × Heap) :=
  if size = 0 ∨ x.2.all AV.flat = false then none else
  match s with
  | .nils => if x.1 = 0 then some (.nils, H) else if x.1 * bytes ≤ 1099511627776 ∧ x.1 ≤ 1099511627776 then some (H.fresh size x.1 (some e) x.2) else none
  | .emp => if x.1 = 0 then some (.emp, H) else none
  | .slice p o n c =>
    if x.1 = 0 then some (.slice p o n c, H) else
    if (n + x.1) * bytes ≤ 1099511627776 ∧ n + x.1 ≤ 1099511627776 then
      match c with
      | .fix c es =>
        if n + x.1 ≤ c then (H.st p (o + n * size) x.2).map fun H' => (.slice p o (n + x.1) (.fix c es), H')
        else (H.ldn p o (n * size)).map fun old => H.fresh size (n + x.1) (some e) (old ++ x.2)
      | .gro es => if es = size then
          match p with
          | .old _ => none
          | .val _ => none
          | .new k => match H.t.get k with
            | some (.row cs es' false ty) => if es' = size ∧ o + n * size ≤ cs.length then some ((H.del k).fresh size (n + x.1) (tyKeep e o ty) ((cs.drop o).take (n * size) ++ x.2)) else none
            | _ => none
        else none
    else none
  | .lst es n f cs =>
    if x.1 = 0 then some (.lst es n f cs, H) else
    if (es = size ∨ n = 0) ∧ f = true ∧ (n + x.1) * bytes ≤ 1099511627776 ∧ n + x.1 ≤ 1099511627776 then some (H.fresh size (n + x.1) (some e) (cs ++ x.2)) else none
  | _ => none
def decodeAt (s : List Nat) : Nat × Nat :=
  let at' (k : Nat) : Nat := s.getD k 0
  let cont (k : Nat) : Bool := decide (k < s.length) && at' k / 64 == 2
  let b0 := at' 0
  if b0 < 0x80 then (b0, 1)
  else if b0 / 32 == 6 && cont 1 then
    let c := (b0 % 32) * 64 + at' 1 % 64
    if c ≥ 0x80 then (c, 2) else (Utf8.runeError, 1)
  else if b0 / 16 == 14 && cont 1 && cont 2 then
    let c := (b0 % 16) * 4096 + (at' 1 % 64) * 64 + at' 2 % 64
    if c ≥ 0x800 && Utf8.valid c then (c, 3) else (Utf8.runeError, 1)
  else if b0 / 8 == 30 && cont 1 && cont 2 && cont 3 then
    let c := (b0 % 8) * 262144 + (at' 1 % 64) * 4096 + (at' 2 % 64) * 64 + at' 3 % 64
    if c ≥ 0x10000 && Utf8.valid c then (c, 4) else (Utf8.runeError, 1)
  else (Utf8.runeError, 1)
def WOp.val (o : WOp) (fr : Fr) (H : Heap) : Option (AV × Heap) :=
  match o with
  | .store size a x => (x.ev fr).cells.bind fun vs => if vs.length = size ∧ vs.all AV.flat = true then (a.ev fr).asPtr.bind fun q => (H.st q.1 q.2 vs).map fun H' => (.undef, H') else none
  | .append e size bytes s x => (taken size H (x.ev fr)).bind fun y => appendOf e size bytes H (s.ev fr) y
  | .nextT it => match it.ev fr with
    | .ptr (.new k) 0 => match H.t.get k with
      | some (.iter s pos) =>
        if pos < s.length then
          some (.tuple [.bool true, .int .i64 pos, .int .i32 (decodeAt (s.drop pos)).1], H.put k (.iter s (pos + (decodeAt (s.drop pos)).2)))
        else some (.tuple [.bool false], H)
      | _ => none
    | _ => none
/-! ### Runs -/
inductive Out where
  | ret (v : AV)
  | panic (v : AV)
abbrev R := Option (Out × Heap)
abbrev CallF := FuncId → List AV → Heap → R
def bindR (r : R) (k : AV → Heap → R) : R :=
  match r with
  | none => none
  | some (.panic v, H) => some (.panic v, H)
  | some (.ret v, H) => k v H
inductive SOp where
  | p (o : POp)
  | a (o : AOp)
  | w (o : WOp)
  | call (f : SX) (args : List SX)
  | panic (x : SX)
structure SOper where
  dst : Option Nat
  guard : Option (Nat × Bool)
  op : SOp
def callV (call : CallF) (f : AV) (args : List AV) (H : Heap) : R :=
  match f with
  | .func f caps => call f (args ++ caps) H
  | _ => none
def SOp.run (call : CallF) (o : SOp) (fr : Fr) (H : Heap) (k : AV → Heap → R) : R :=
  match o with
  | .p o => (o.val fr H).bind fun v => k v H
  | .a o => (o.val fr H.n).bind fun q => k q.2 (H.push q.1)
  | .w o => (o.val fr H).bind fun q => k q.1 q.2
  | .call f args => bindR (callV call (f.ev fr) (args.map (·.ev fr)) H) k
  | .panic x => match x.ev fr with
    | .iface t v => some (.panic (.iface t v), H)
    | _ => none
def wants (fr : Fr) : Option (Nat × Bool) → Option Bool
  | none => some true
  | some (t, b) => match fr t with
    | .bool c => some (c == b)
    | .tuple [] => some false
    | _ => none
def skipped : AV := .tuple []
def SOper.run (call : CallF) (o : SOper) (fr : Fr) (H : Heap) (k : Fr → Heap → R) : R :=
  (wants fr o.guard).bind fun t => bif t then o.op.run call fr H fun v H' => k (fr.put o.dst v) H' else k (fr.put o.dst skipped) H
def sameCap : Cap → Cap → Bool
  | .fix p e, .fix q f => p == q && e == f
  | .gro p, .gro q => p == q
  | _, _ => false
mutual
def same (x : AV) (y : AV) : Bool :=
  match x, y with
  | .undef, .undef => true
  | .bool a, .bool b => a == b
  | .int k a, .int k' b => decide (k = k') && a == b
  | .str a, .str b => a == b
  | .nilp, .nilp => true
  | .ptr p o, .ptr q u => sameBlk p q && o == u
  | .nils, .nils => true
  | .slice p o n c, .slice q u m d => sameBlk p q && (o == u && (n == m && sameCap c d))
  | .emp, .emp => true
  | .nilf, .nilf => true
  | .nili, .nili => true
  | .nilm, .nilm => true
  | .map a, .map b => a == b
  | .agg xs, .agg ys => sames xs ys
  | .tuple xs, .tuple ys => sames xs ys
  | .iface t x, .iface u y => t == u && same x y
  | .func f xs, .func g ys => f == g && sames xs ys
  | .lst e n f xs, .lst e' n' f' ys => e == e' && (n == n' && (f == f' && sames xs ys))
  | _, _ => false
termination_by structural x
def sameBlk (x : Blk) (y : Blk) : Bool :=
  match x, y with
  | .old p, .old q => p == q
  | .new p, .new q => p == q
  | .val xs, .val ys => sames xs ys
  | _, _ => false
termination_by structural x
def sames (x : List AV) (y : List AV) : Bool :=
  match x, y with
  | [], [] => true
  | x :: xs, y :: ys => same x y && sames xs ys
  | _, _ => false
termination_by structural x
end
mutual
theorem same_refl : ∀ x : AV, same x x = true
  | .undef => rfl
  | .bool a => by simp [same]
  | .int k a => by simp [same]
  | .str a => by simp [same]
  | .nilp => rfl
  | .ptr p o => by simp [same, sameBlk_refl p]
  | .nils => rfl
  | .slice p o n c => by cases c <;> simp [same, sameBlk_refl p, sameCap]
  | .emp => rfl
  | .nilf => rfl
  | .nili => rfl
  | .nilm => rfl
  | .map a => by simp [same]
  | .agg xs => by simp [same, sames_refl xs]
  | .tuple xs => by simp [same, sames_refl xs]
  | .iface t x => by simp [same, same_refl x]
  | .func f xs => by simp [same, sames_refl xs]
  | .lst e n f xs => by simp [same, sames_refl xs]
theorem sameBlk_refl : ∀ x : Blk, sameBlk x x = true
  | .old p => by simp [sameBlk]
  | .new p => by simp [sameBlk]
  | .val xs => by simp [sameBlk, sames_refl xs]
theorem sames_refl : ∀ x : List AV, sames x x = true
  | [] => rfl
  | x :: xs => by simp [sames, same_refl x, sames_refl xs]
end
inductive Ex where
  | normal
  | exit (id : Nat)
  | ret
inductive SCode where
  | skip
  | ops (l : List SOper)
  | draw (pre : List SOper) (phs : List (SOper × List SOper × List SOper))
  | draw2 (pre : List SOper) (phs : List (SOper × List SOper × List SOper)) (a b : SOper)
  | seq (a b : SCode)
  | cond (c : SX) (a b : SCode)
  | block (id : Nat) (c : SCode)
  | loop (c : SCode)
  | exit (id : Nat)
  | ret
def runOps (call : CallF) : List SOper → Fr → Heap → (Fr → Heap → R) → R
  | [], fr, H, K => K fr H
  | o :: l, fr, H, K => o.run call fr H fun fr' H' => runOps call l fr' H' K
def SOper.again (o : SOper) (fr : Fr) (H : Heap) : Bool :=
  match o.dst, o.op, wants fr o.guard with
  | some t, .p q, some true => (match q.val fr H with | some v => same v (fr t) | none => false)
  | _, .p _, some false => true
  | _, _, _ => false
def runPhs (call : CallF) : List (SOper × List SOper × List SOper) → Fr → Heap → (Fr → Heap → R) → R
  | [], fr, H, K => K fr H
  | (o, cks, sm) :: l, fr, H, K => o.run call fr H fun fr H => bif cks.all (·.again fr H) then runOps call sm fr H fun fr H => runPhs call l fr H K else none
def SOper.into (o : SOper) (fr : Fr) : Option Nat :=
  match o.dst, o.guard, o.op with
  | none, none, .w (.store _ a _) => match a.ev fr with
    | .ptr (.new k) _ => some k
    | _ => none
  | _, _, _ => none
def asunder (a b : SOper) (fr : Fr) : Bool :=
  match a.into fr, b.into fr with
  | some j, some k => !Nat.beq j k
  | _, _ => false
def loopN (body : Fr → Heap → (Ex → Fr → Heap → R) → R) : Nat → Fr → Heap → (Ex → Fr → Heap → R) → R
  | 0, _, _, _ => none
  | m + 1, fr, H, K => body fr H fun e fr' H' => match e with
    | .normal => loopN body m fr' H' K
    | e => K e fr' H'
def SCode.run (call : CallF) (n : Nat) : SCode → Fr → Heap → (Ex → Fr → Heap → R) → R
  | .skip, fr, H, K => K .normal fr H
  | .ops l, fr, H, K => runOps call l fr H (K .normal)
  | .draw pre phs, fr, H, K => runOps call pre fr H fun fr H => runPhs call phs fr H (K .normal)
  | .draw2 pre phs a b, fr, H, K => runOps call pre fr H fun fr H => runPhs call phs fr H fun fr H => bif asunder a b fr then a.run call fr H fun fr H => b.run call fr H (K .normal) else none
  | .seq a b, fr, H, K => a.run call n fr H fun e fr' H' => match e with
    | .normal => b.run call n fr' H' K
    | e => K e fr' H'
  | .cond c a b, fr, H, K => (c.ev fr).asBool.bind fun t => bif t then a.run call n fr H K else b.run call n fr H K
  | .block id c, fr, H, K => c.run call n fr H fun e fr' H' => match e with
    | .exit i => bif Nat.beq i id then K .normal fr' H' else K (.exit i) fr' H'
    | e => K e fr' H'
  | .loop c, fr, H, K => loopN (fun fr H K => c.run call n fr H K) n fr H K
  | .exit id, fr, H, K => K (.exit id) fr H
  | .ret, fr, H, K => K .ret fr H
inductive ResV where
  | tmp (t : Nat)
  | cell1 (t : Nat)
  | celln (t n : Nat)
def ResV.val (fr : Fr) (H : Heap) : ResV → Option AV
  | .tmp t => some (fr t)
  | .cell1 t => (fr t).asPtr.bind fun q => H.ld1 q.1 q.2
  | .celln t n => (fr t).asPtr.bind fun q => (H.ldn q.1 q.2 n).map .agg
def resVals (fr : Fr) (H : Heap) : List ResV → Option (List AV)
  | [] => some []
  | r :: rs => (r.val fr H).bind fun v => (resVals fr H rs).map (v :: ·)
def oneOr : List AV → AV
  | [v] => v
  | vs => .tuple vs
structure SFunc where
  nt : Nat
  body : SCode
  res : List ResV
def finish (res : List ResV) : Ex → Fr → Heap → R
  | .exit _, _, _ => none
  | _, fr, H => (resVals fr H res).map fun vs => (.ret (oneOr vs), H)
def initFr (args : List AV) : Fr := fun t => (args[t]?).getD .undef
/-! ### Calls that are sealed -/
def Cap.es : Cap → Nat
  | .fix _ es => es
  | .gro es => es
def Cap.full (n : Nat) : Cap → Bool
  | .fix c _ => Nat.beq c n
  | .gro _ => false
def mapHM (f : AV → Heap → Option (AV × Heap)) : List AV → Heap → Option (List AV × Heap)
  | [], H => some ([], H)
  | v :: vs, H => (f v H).bind fun q => (mapHM f vs q.2).map fun r => (q.1 :: r.1, r.2)
def shutRow (f : AV → Heap → Option (AV × Heap)) (H : Heap) (k o n : Nat) (c : Cap) : Option Obj → Option (AV × Heap)
  | some (.row cs es _ ty) =>
    if ((cs.drop o).take (n * c.es)).length = n * c.es ∧ (n = 0 ∨ c.es ≠ 0) then
      (mapHM f ((cs.drop o).take (n * c.es)) (H.put k (.row cs es true ty))).map fun q => (.L (c.full 0) c.es q.1 n, q.2)
    else none
  | _ => none
def shutC : Nat → AV → Heap → Option (AV × Heap)
  | 0, v, H => (canon v).map fun v => (v, H)
  | d + 1, v, H => match v with
    | .slice (.new k) o n c => shutRow (shutC d) H k o n c (H.t.get k)
    | v => (canon v).map fun v => (v, H)
def shutA : AV → Heap → Option (AV × Heap)
  | .agg cs, H => (mapHM (shutC 2048) cs H).map fun q => (.agg q.1, q.2)
  | .func f cs, H => (mapHM (shutC 2048) cs H).map fun q => (.func f q.1, q.2)
  | v, H => shutC 2048 v H
def shutV : AV → Heap → Option (AV × Heap)
  | .tuple cs, H => (mapHM shutA cs H).map fun q => (.tuple q.1, q.2)
  | .iface t v, H => (shutA v H).map fun q => (.iface t q.1, q.2)
  | v, H => shutA v H
def softV (v : AV) (H : Heap) : Option (AV × Heap) :=
  match shutV v H with
  | some q => some q
  | none => some (v, H)
def Heap.bare (H : Heap) : Heap := { base := H.base, t := .nil, n := 0 }
def opened (H : Heap) : R → R
  | none => none
  | some (.ret v, H') => (shutV v H').map fun q => (.ret q.1, H)
  | some (.panic v, H') => (shutV v H').map fun q => (.panic q.1, H)
def settled : R → R
  | some (.ret v, H') => (shutV v H').map fun q => (.ret q.1, q.2)
  | r => r
structure Prg where
  code : FuncId → Option SFunc
  own : FuncId → Option (List AV → Heap → R)
  mode : FuncId → Nat
def Prg.seal (P : Prg) (f : FuncId) : Prg := { P with mode := fun g => bif Nat.beq g f then 2 else P.mode g }
def callN : Prg → Nat → CallF
  | _, 0, _, _, _ => none
  | P, n + 1, f, args, H => match P.own f with
    | some g => g args H
    | none => match P.code f with
      | some sf => bif Nat.ble args.length sf.nt then
          match P.mode f with
          | 0 => sf.body.run (callN P n) n (initFr args) H (finish sf.res)
          | 1 => (mapHM softV args H).bind fun q => settled (sf.body.run (callN P n) n (initFr q.1) q.2 (finish sf.res))
          | 3 => (mapHM softV args H).bind fun q => sf.body.run (callN P n) n (initFr q.1) q.2 (finish sf.res)
          | 4 => (mapHM softV args H).bind fun q => sf.body.run (callN (P.seal f) n) n (initFr q.1) q.2 (finish sf.res)
          | _ => (mapHM shutV args H).bind fun q => opened q.2 (sf.body.run (callN P n) n (initFr q.1) q.2.bare (finish sf.res))
        else none
      | none => none
end Go.Lite

/-
  What the interpreter's values and heap say of a world.
-/
namespace Go.Lite
open Go
structure Loc where
  blk : Nat
  off : Nat
  lim : Nat
structure Emb where
  map : Nat → Option Loc
  fz : Nat → Option (Array Value)
instance : CoeFun Emb (fun _ => Nat → Option Loc) := ⟨Emb.map⟩
structure Emb.le (ι ι' : Emb) : Prop where
  map : ∀ k l, ι k = some l → ι' k = some l
  fz : ∀ b c, ι.fz b = some c → ι'.fz b = some c
theorem Emb.le_refl (ι : Emb) : ι.le ι := ⟨fun _ _ h => h, fun _ _ h => h⟩
theorem Emb.le_trans {ι ι' ι'' : Emb} (h : ι.le ι') (h' : ι'.le ι'') : ι.le ι'' := ⟨fun k l e => h'.map k l (h.map k l e), fun k l e => h'.fz k l (h.fz k l e)⟩
def Emb.bare (ι : Emb) : Emb := ⟨fun _ => none, ι.fz⟩
theorem Emb.bare_le (ι : Emb) : ι.bare.le ι := ⟨fun _ _ h => (by cases h), fun _ _ h => h⟩
theorem Emb.bare_mono {ι ι' : Emb} (h : ι.le ι') : ι.bare.le ι'.bare := ⟨fun _ _ h => (by cases h), h.fz⟩
theorem Emb.bare_bare (ι : Emb) : ι.bare.bare = ι.bare := rfl
def Emb.holds (ι : Emb) (b o : Nat) (vs : List Value) : Prop := ∃ c, ι.fz b = some c ∧ ∀ (i : Nat) v, vs[i]? = some v → c[o + i]? = some v
theorem Emb.holds_mono {ι ι' : Emb} (h : ι.le ι') {b o : Nat} {vs : List Value} (k : ι.holds b o vs) : ι'.holds b o vs := by
  obtain ⟨c, h1, h2⟩ := k
  exact ⟨c, h.fz b c h1, h2⟩
def capRel (l : Loc) (o n cap : Nat) : Cap → Prop
  | .fix c _ => cap = c
  | .gro es => es = 0 ∨ o + cap * es ≤ l.lim
def bytesRel (s : List Nat) (b : ByteArray) : Prop := b.data.toList.map (·.toNat) = s
structure NB where
  n : Nat
  inv : World → Prop
  keep : ∀ w w' : World, (∀ b, b < n → w'.heap[b]? = w.heap[b]?) → inv w → inv w'
instance : Coe NB Nat := ⟨NB.n⟩
def NB.of (n : Nat) : NB := ⟨n, fun _ => True, fun _ _ _ _ => trivial⟩
mutual
def VRel (nb : NB) (ι : Emb) : AV → Value → Prop
  | .undef, _ => True
  | .bool b, v => v = .bool b
  | .int k n, v => v = .int k n
  | .str s, v => ∃ b, v = .string b ∧ bytesRel s b
  | .nilp, v => v = .pointer none
  | .ptr p o, v => ∃ l, locOf nb ι p l ∧ v = .pointer (some ⟨l.blk, l.off + o, none⟩)
  | .nils, v => v = .slice none 0 0
  | .slice p o n c, v => ∃ l cap, locOf nb ι p l ∧ v = .slice (some ⟨l.blk, l.off + o, none⟩) n cap ∧ n ≤ cap ∧ capRel l o n cap c
  | .emp, v => ∃ a cap, v = .slice (some a) 0 cap
  | .func f caps, v => ∃ cs, v = .func (.func f) #[] cs ∧ VRels nb ι caps cs.toList
  | .nilf, v => v = .nilFunc
  | .iface t x, v => ∃ y, v = .iface t y ∧ VRel nb ι x y
  | .nili, v => v = .nilIface
  | .agg cs, v => ∃ l, v = .agg l ∧ VRels nb ι cs l.toList
  | .tuple vs, v => ∃ l, v = .tuple l ∧ VRels nb ι vs l.toList
  | .nilm, v => v = .map none
  | .map _, _ => False
  | .lst es n f cs, v => cs.length = n * es ∧ ∃ a cap, v = .slice a n cap ∧ n ≤ cap ∧ (f = true → cap = n) ∧ (a = none → cap = 0) ∧ (n ≠ 0 → ∃ b o vs, a = some ⟨b, o, none⟩ ∧ VRels nb ι.bare cs vs ∧ ι.holds b o vs)
def locOf (nb : NB) (ι : Emb) : Blk → Loc → Prop
  | .old b, l => b < nb ∧ l = ⟨b, 0, 0⟩
  | .new k, l => ι k = some l
  | .val cs, l => ∃ vs, VRels nb ι.bare cs vs ∧ ι.holds l.blk l.off vs
def VRels (nb : NB) (ι : Emb) : List AV → List Value → Prop
  | [], l => l = []
  | x :: xs, l => ∃ y ys, l = y :: ys ∧ VRel nb ι x y ∧ VRels nb ι xs ys
end
mutual
theorem VRel.mono {nb : NB} {ι ι' : Emb} (h : ι.le ι') : ∀ (x : AV) (v : Value), VRel nb ι x v → VRel nb ι' x v
  | .undef, _, _ => by simp [VRel]
  | .bool b, v, r => by simpa [VRel] using r
  | .int k n, v, r => by simpa [VRel] using r
  | .str s, v, r => by simpa [VRel] using r
  | .nilp, v, r => by simpa [VRel] using r
  | .ptr p o, v, r => by
    simp only [VRel] at r ⊢
    obtain ⟨l, e, rfl⟩ := r
    exact ⟨l, locOf_mono h p l e, rfl⟩
  | .nils, v, r => by simpa [VRel] using r
  | .slice p o n c, v, r => by
    simp only [VRel] at r ⊢
    obtain ⟨l, cap, e, rfl, h1, h2⟩ := r
    exact ⟨l, cap, locOf_mono h p l e, rfl, h1, h2⟩
  | .emp, v, r => by simpa [VRel] using r
  | .func f caps, v, r => by
    simp only [VRel] at r ⊢
    obtain ⟨cs, rfl, h1⟩ := r
    exact ⟨cs, rfl, VRels.mono h caps _ h1⟩
  | .nilf, v, r => by simpa [VRel] using r
  | .iface t x, v, r => by
    simp only [VRel] at r ⊢
    obtain ⟨y, rfl, h1⟩ := r
    exact ⟨y, rfl, VRel.mono h x _ h1⟩
  | .nili, v, r => by simpa [VRel] using r
  | .agg cs, v, r => by
    simp only [VRel] at r ⊢
    obtain ⟨l, rfl, h1⟩ := r
    exact ⟨l, rfl, VRels.mono h cs _ h1⟩
  | .tuple cs, v, r => by
    simp only [VRel] at r ⊢
    obtain ⟨l, rfl, h1⟩ := r
    exact ⟨l, rfl, VRels.mono h cs _ h1⟩
  | .nilm, v, r => by simpa [VRel] using r
  | .map _, v, r => by simp [VRel] at r
  | .lst es n f cs, v, r => by
    simp only [VRel] at r ⊢
    obtain ⟨h0, a, cap, rfl, h1, h2, h3, h4⟩ := r
    refine ⟨h0, a, cap, rfl, h1, h2, h3, fun hn => ?_⟩
    obtain ⟨b, o, vs, e, h5, h6⟩ := h4 hn
    exact ⟨b, o, vs, e, VRels.mono (Emb.bare_mono h) cs _ h5, Emb.holds_mono h h6⟩
theorem locOf_mono {nb : NB} {ι ι' : Emb} (h : ι.le ι') : ∀ (p : Blk) (l : Loc), locOf nb ι p l → locOf nb ι' p l
  | .old b, l, e => by simpa [locOf] using e
  | .new k, l, e => by
    simp only [locOf] at e ⊢
    exact h.map k l e
  | .val cs, l, e => by
    simp only [locOf] at e ⊢
    obtain ⟨vs, h1, h2⟩ := e
    exact ⟨vs, VRels.mono (Emb.bare_mono h) cs _ h1, Emb.holds_mono h h2⟩
theorem VRels.mono {nb : NB} {ι ι' : Emb} (h : ι.le ι') : ∀ (xs : List AV) (vs : List Value), VRels nb ι xs vs → VRels nb ι' xs vs
  | [], vs, r => by simpa [VRels] using r
  | x :: xs, vs, r => by
    simp only [VRels] at r ⊢
    obtain ⟨y, ys, rfl, h1, h2⟩ := r
    exact ⟨y, ys, rfl, VRel.mono h x _ h1, VRels.mono h xs _ h2⟩
end
mutual
theorem VRel.pure {nb : NB} {ι : Emb} : ∀ (x : AV) (v : Value), x.pure = true → VRel nb ι x v → VRel nb ι.bare x v
  | .undef, _, h, _ => by simp [AV.pure] at h
  | .bool b, v, _, r => by simpa [VRel] using r
  | .int k n, v, _, r => by simpa [VRel] using r
  | .str s, v, _, r => by simpa [VRel] using r
  | .nilp, v, _, r => by simpa [VRel] using r
  | .ptr p o, v, h, r => by
    simp only [VRel] at r ⊢
    simp only [AV.pure] at h
    obtain ⟨l, e, rfl⟩ := r
    exact ⟨l, locOf_pure p l h e, rfl⟩
  | .nils, v, _, r => by simpa [VRel] using r
  | .slice p o n c, v, h, r => by
    simp only [VRel] at r ⊢
    simp only [AV.pure] at h
    obtain ⟨l, cap, e, rfl, h1, h2⟩ := r
    exact ⟨l, cap, locOf_pure p l h e, rfl, h1, h2⟩
  | .emp, v, _, r => by simpa [VRel] using r
  | .func f caps, v, h, r => by
    simp only [VRel] at r ⊢
    simp only [AV.pure] at h
    obtain ⟨cs, rfl, h1⟩ := r
    exact ⟨cs, rfl, VRels.pure caps _ h h1⟩
  | .nilf, v, _, r => by simpa [VRel] using r
  | .iface t x, v, h, r => by
    simp only [VRel] at r ⊢
    simp only [AV.pure] at h
    obtain ⟨y, rfl, h1⟩ := r
    exact ⟨y, rfl, VRel.pure x _ h h1⟩
  | .nili, v, _, r => by simpa [VRel] using r
  | .agg cs, v, h, r => by
    simp only [VRel] at r ⊢
    simp only [AV.pure] at h
    obtain ⟨l, rfl, h1⟩ := r
    exact ⟨l, rfl, VRels.pure cs _ h h1⟩
  | .tuple cs, v, h, r => by
    simp only [VRel] at r ⊢
    simp only [AV.pure] at h
    obtain ⟨l, rfl, h1⟩ := r
    exact ⟨l, rfl, VRels.pure cs _ h h1⟩
  | .nilm, v, _, r => by simpa [VRel] using r
  | .map _, v, _, r => by simp [VRel] at r
  | .lst es n f cs, v, _, r => by
    simp only [VRel, Emb.bare_bare] at r ⊢
    exact r
theorem locOf_pure {nb : NB} {ι : Emb} : ∀ (p : Blk) (l : Loc), p.pure = true → locOf nb ι p l → locOf nb ι.bare p l
  | .old b, l, _, e => by simpa [locOf] using e
  | .new k, l, h, _ => by simp [Blk.pure] at h
  | .val cs, l, _, e => by
    simp only [locOf, Emb.bare_bare] at e ⊢
    exact e
theorem VRels.pure {nb : NB} {ι : Emb} : ∀ (xs : List AV) (vs : List Value), pures xs = true → VRels nb ι xs vs → VRels nb ι.bare xs vs
  | [], vs, _, r => by simpa [VRels] using r
  | x :: xs, vs, h, r => by
    simp only [VRels] at r ⊢
    simp only [pures, Bool.and_eq_true] at h
    obtain ⟨y, ys, rfl, h1, h2⟩ := r
    exact ⟨y, ys, rfl, VRel.pure x _ h.1 h1, VRels.pure xs _ h.2 h2⟩
end
theorem VRels.get {nb : NB} {ι : Emb} : ∀ {xs : List AV} {vs : List Value}, VRels nb ι xs vs → ∀ (i : Nat) (x : AV), xs[i]? = some x → ∃ v, vs[i]? = some v ∧ VRel nb ι x v
  | [], vs, _, i, x, h => by simp at h
  | y :: ys, vs, r, i, x, h => by
    simp only [VRels] at r
    obtain ⟨z, zs, rfl, h1, h2⟩ := r
    cases i with
    | zero => simp at h; subst h; exact ⟨z, rfl, h1⟩
    | succ i => simp at h ⊢; exact VRels.get h2 i x h
theorem VRels.length {nb : NB} {ι : Emb} : ∀ {xs : List AV} {vs : List Value}, VRels nb ι xs vs → vs.length = xs.length
  | [], vs, r => by simp only [VRels] at r; subst r; rfl
  | y :: ys, vs, r => by
    simp only [VRels] at r
    obtain ⟨z, zs, rfl, h1, h2⟩ := r
    simp [VRels.length h2]
theorem VRels.of_get {nb : NB} {ι : Emb} : ∀ {xs : List AV} {vs : List Value}, vs.length = xs.length → (∀ (i : Nat) (x : AV) (v : Value), xs[i]? = some x → vs[i]? = some v → VRel nb ι x v) → VRels nb ι xs vs
  | [], vs, hl, _ => by simp only [VRels]; simpa using hl
  | y :: ys, [], hl, _ => by simp at hl
  | y :: ys, z :: zs, hl, h => by
    simp only [VRels]
    refine ⟨z, zs, rfl, h 0 y z rfl rfl, VRels.of_get (by simpa using hl) fun i x v hx hv => h (i + 1) x v (by simpa using hx) (by simpa using hv)⟩
theorem VRels.append {nb : NB} {ι : Emb} {xs ys : List AV} {vs us : List Value} (h : VRels nb ι xs vs) (h' : VRels nb ι ys us) : VRels nb ι (xs ++ ys) (vs ++ us) := by
  induction xs generalizing vs with
  | nil => simp only [VRels] at h; subst h; exact h'
  | cons x xs ih =>
    simp only [VRels] at h
    obtain ⟨z, zs, rfl, h1, h2⟩ := h
    simp only [List.cons_append, VRels]
    exact ⟨z, zs ++ us, rfl, h1, ih h2⟩
theorem VRels.take {nb : NB} {ι : Emb} {xs : List AV} {vs : List Value} (h : VRels nb ι xs vs) (n : Nat) : VRels nb ι (xs.take n) (vs.take n) := by
  induction xs generalizing vs n with
  | nil => simp only [VRels] at h; subst h; simp [VRels]
  | cons x xs ih =>
    simp only [VRels] at h
    obtain ⟨z, zs, rfl, h1, h2⟩ := h
    cases n with
    | zero => simp [VRels]
    | succ n => simp only [List.take_succ_cons, VRels]; exact ⟨z, _, rfl, h1, ih h2 n⟩
theorem VRels.drop {nb : NB} {ι : Emb} {xs : List AV} {vs : List Value} (h : VRels nb ι xs vs) (n : Nat) : VRels nb ι (xs.drop n) (vs.drop n) := by
  induction xs generalizing vs n with
  | nil => simp only [VRels] at h; subst h; simp [VRels]
  | cons x xs ih =>
    cases n with
    | zero => simpa using h
    | succ n =>
      simp only [VRels] at h
      obtain ⟨z, zs, rfl, h1, h2⟩ := h
      simpa using ih h2 n
theorem VRels.putAt {nb : NB} {ι : Emb} {xs ys : List AV} {vs us : List Value} (h : VRels nb ι xs vs) (o : Nat) (h' : VRels nb ι ys us) :
    VRels nb ι (putAt xs o ys) (vs.take o ++ us ++ vs.drop (o + us.length)) := by
  unfold Lite.putAt
  rw [h'.length]
  exact (h.take o |>.append h').append (h.drop _)
theorem VRel.cells {nb : NB} {ι : Emb} {x : AV} {v : Value} {cs : List AV} (h : VRel nb ι x v) (hx : x.cells = some cs) : VRels nb ι cs v.cells.toList := by
  cases x <;> simp only [AV.cells, Option.some.injEq, reduceCtorEq] at hx <;> subst hx
  case agg =>
    simp only [VRel] at h
    obtain ⟨l, rfl, h1⟩ := h
    exact h1
  case map => simp [VRel] at h
  all_goals (
    have h' := h
    simp only [VRel] at h
    simp only [VRels]
    first
      | (obtain ⟨l, rfl, h1⟩ := h; exact ⟨_, [], rfl, h', rfl⟩)
      | (obtain ⟨h0, a, cap, rfl, _⟩ := h; exact ⟨_, [], rfl, h', rfl⟩)
      | (obtain ⟨l, e, rfl⟩ := h; exact ⟨_, [], rfl, h', rfl⟩)
      | (obtain ⟨l, cap, e, rfl, h1, h2⟩ := h; exact ⟨_, [], rfl, h', rfl⟩)
      | (obtain ⟨l, cap, rfl⟩ := h; exact ⟨_, [], rfl, h', rfl⟩)
      | (subst h; exact ⟨_, [], rfl, h', rfl⟩))
theorem VRel.flat {nb : NB} {ι : Emb} {x : AV} {v : Value} (h : VRel nb ι x v) (hx : x.flat = true) : v.oneCell' = true := by
  cases x <;> simp [AV.flat] at hx <;> simp only [VRel] at h
  case bool | int | nilp | nils | nilf | nili | nilm => subst h; rfl
  case str | iface | func => obtain ⟨l, rfl, h1⟩ := h; rfl
  case ptr => obtain ⟨l, e, rfl⟩ := h; rfl
  case slice => obtain ⟨l, cap, e, rfl, h1, h2⟩ := h; rfl
  case emp => obtain ⟨l, cap, rfl⟩ := h; rfl
  case lst => obtain ⟨_, a, cap, rfl, _⟩ := h; rfl
theorem VRels.flat {nb : NB} {ι : Emb} : ∀ {xs : List AV} {vs : List Value}, VRels nb ι xs vs → xs.all AV.flat = true → ∀ v ∈ vs, v.oneCell' = true
  | [], vs, r, _, v, hv => by simp only [VRels] at r; subst r; cases hv
  | x :: xs, vs, r, hx, v, hv => by
    simp only [VRels] at r
    obtain ⟨y, ys, rfl, h1, h2⟩ := r
    simp only [List.all_cons, Bool.and_eq_true] at hx
    rcases List.mem_cons.1 hv with rfl | hv
    · exact h1.flat hx.1
    · exact h2.flat hx.2 v hv
/-! ### The heap -/
def TyRel (w : World) (l : Loc) (es len : Nat) (ty : Option Nat) : Prop := ∀ t, ty = some t → l.off = 0 ∧ ∃ c, w.shape? l.blk = some (t, c) ∧ (es = 0 → c = len)
theorem TyRel.of_shape {w w' : World} {l : Loc} {es len : Nat} {ty : Option Nat} (h : w'.shape? l.blk = w.shape? l.blk) (r : TyRel w l es len ty) : TyRel w' l es len ty := fun t ht => by
  obtain ⟨h0, c, h1, h2⟩ := r t ht
  exact ⟨h0, c, h.trans h1, h2⟩
theorem TyRel.of_heap {w w' : World} {l : Loc} {es len : Nat} {ty : Option Nat} (h : w'.heap[l.blk]? = w.heap[l.blk]?) (r : TyRel w l es len ty) : TyRel w' l es len ty :=
  r.of_shape (by simp only [World.shape?, h])
structure Rel (nb : NB) (ι : Emb) (H : Heap) (w : World) : Prop where
  nbw : nb ≤ w.heap.size
  old : ∀ b cs, H.base b = some cs → b < nb ∧ ∀ i x, cs[i]? = some x → ∃ v, w.cell? ⟨b, i, none⟩ = some v ∧ VRel nb ι.bare x v
  row : ∀ k l cs es fz ty, ι k = some l → H.t.get k = some (.row cs es fz ty) →
    (∀ i x, cs[i]? = some x → ∃ v, w.cell? ⟨l.blk, l.off + i, none⟩ = some v ∧ VRel nb ι x v) ∧
    (fz = false → ∀ i v, w.cell? ⟨l.blk, i, none⟩ = some v → w.frozen? ⟨l.blk, i, none⟩ = false) ∧
    (es ≠ 0 → ∀ i, i < l.lim → ∃ v, w.cell? ⟨l.blk, l.off + i, none⟩ = some v) ∧ TyRel w l es cs.length ty
  iter : ∀ k l s pos, ι k = some l → H.t.get k = some (.iter s pos) → l.off = 0 ∧ ∃ b, bytesRel s b ∧ w.heap[l.blk]? = some (.stringIter b pos)
  dom : ∀ k l, ι k = some l → nb ≤ l.blk ∧ l.blk < w.heap.size ∧ k < H.n
  inj : ∀ k k' l l' o o', ι k = some l → ι k' = some l' → H.t.get k = some o → H.t.get k' = some o' → l.blk = l'.blk → k = k'
  lt : ∀ k o, H.t.get k = some o → k < H.n
  fz : ∀ b c, ι.fz b = some c → b < w.heap.size ∧ (∀ i : Nat, w.cell? ⟨b, i, none⟩ = c[i]?) ∧ ∀ k l o, ι k = some l → H.t.get k = some o → l.blk = b → ∃ cs es ty, o = .row cs es true ty
  inv : nb.inv w
def Turned (w w' : World) (h : Array Go.Obj) : Prop := w' = { w with heap := h, drawn := w'.drawn }
theorem Turned.heap {w w' : World} {h : Array Go.Obj} (t : Turned w w' h) : w'.heap = h := by unfold Turned at t; rw [t]
theorem Turned.env {w w' : World} {h : Array Go.Obj} (t : Turned w w' h) : w'.os = w.os ∧ w'.tape = w.tape ∧ w'.output = w.output := by unfold Turned at t; rw [t]; exact ⟨rfl, rfl, rfl⟩
structure Ext (nb : NB) (ι : Emb) (H : Heap) (w : World) (ι' : Emb) (H' : Heap) (w' : World) : Prop where
  le : ι.le ι'
  size : w.heap.size ≤ w'.heap.size
  kept : ∀ b, b < w.heap.size → (b < nb ∨ ∀ k l, ι k = some l → l.blk ≠ b) → w'.heap[b]? = w.heap[b]?
  rng : ∀ k l, ι' k = some l → l.blk < w.heap.size → ∃ k0 l0, ι k0 = some l0 ∧ l0.blk = l.blk
  fresh : ∀ k l, ι' k = some l → ι k = some l ∨ H.n ≤ k
  n : H.n ≤ H'.n
  unborn : ∀ k, k < H.n → ι k = none → H'.t.get k = H.t.get k
  base : H'.base = H.base
  env : w'.os = w.os ∧ w'.tape = w.tape ∧ w'.output = w.output
  frz : ∀ b c, ι'.fz b = some c → ι.fz b = some c ∨ w.heap.size ≤ b ∨ ∃ k l, ι k = some l ∧ l.blk = b
theorem Ext.refl {nb : NB} {ι : Emb} {H : Heap} {w : World} : Ext nb ι H w ι H w :=
  ⟨Emb.le_refl ι, Nat.le_refl _, fun _ _ _ => rfl, fun k l h _ => ⟨k, l, h, rfl⟩, fun _ _ h => .inl h, Nat.le_refl _, fun _ _ _ => rfl, rfl, ⟨rfl, rfl, rfl⟩, fun _ _ h => .inl h⟩
theorem Ext.same {nb : NB} {ι : Emb} {H : Heap} {w w' : World} (h : Turned w w' w.heap) : Ext nb ι H w ι H w' :=
  ⟨Emb.le_refl ι, by rw [h.heap]; exact Nat.le_refl _, fun _ _ _ => by rw [h.heap], fun k l h' hl => ⟨k, l, h', rfl⟩, fun _ _ h => .inl h, Nat.le_refl _, fun _ _ _ => rfl, rfl, h.env, fun _ _ h => .inl h⟩
theorem Ext.trans {nb : NB} {ι ι' ι'' : Emb} {H H' H'' : Heap} {w w' w'' : World} (h : Ext nb ι H w ι' H' w') (h' : Ext nb ι' H' w' ι'' H'' w'') : Ext nb ι H w ι'' H'' w'' where
  le := Emb.le_trans h.le h'.le
  size := Nat.le_trans h.size h'.size
  kept b hb hc := by
    rw [← h.kept b hb hc]
    refine h'.kept b (Nat.lt_of_lt_of_le hb h.size) (hc.imp id fun hn k l e hl => ?_)
    obtain ⟨k0, l0, e0, hl0⟩ := h.rng k l e (by omega)
    exact hn k0 l0 e0 (by omega)
  rng k l e hl := by
    obtain ⟨k1, l1, e1, hl1⟩ := h'.rng k l e (Nat.lt_of_lt_of_le hl h.size)
    obtain ⟨k0, l0, e0, hl0⟩ := h.rng k1 l1 e1 (by omega)
    exact ⟨k0, l0, e0, by omega⟩
  fresh k l e := by
    rcases h'.fresh k l e with h1 | h1
    · exact h.fresh k l h1
    · exact .inr (Nat.le_trans h.n h1)
  n := Nat.le_trans h.n h'.n
  unborn k hk e := by
    rw [← h.unborn k hk e]
    refine h'.unborn k (Nat.lt_of_lt_of_le hk h.n) ?_
    cases e' : ι' k with
    | none => rfl
    | some l =>
      rcases h.fresh k l e' with h1 | h1
      · rw [e] at h1; cases h1
      · omega
  base := h'.base.trans h.base
  env := ⟨h'.env.1.trans h.env.1, h'.env.2.1.trans h.env.2.1, h'.env.2.2.trans h.env.2.2⟩
  frz b c e := by
    rcases h'.frz b c e with h1 | h1 | ⟨k, l, e1, hl⟩
    · exact h.frz b c h1
    · exact .inr (.inl (Nat.le_trans h.size h1))
    · rcases Nat.lt_or_ge b w.heap.size with hb | hb
      · obtain ⟨k0, l0, e0, hl0⟩ := h.rng k l e1 (by omega)
        exact .inr (.inr ⟨k0, l0, e0, by omega⟩)
      · exact .inr (.inl hb)
theorem cell?_of_heap {w w' : World} {b : Nat} (h : w'.heap[b]? = w.heap[b]?) (i : Nat) : w'.cell? ⟨b, i, none⟩ = w.cell? ⟨b, i, none⟩ := by
  simp only [World.cell?, h]
theorem frozen?_of_heap {w w' : World} {b : Nat} (h : w'.heap[b]? = w.heap[b]?) (i : Nat) : w'.frozen? ⟨b, i, none⟩ = w.frozen? ⟨b, i, none⟩ := by
  simp only [World.frozen?, h]
theorem Rel.same {nb : NB} {ι : Emb} {H : Heap} {w w' : World} (h : w'.heap = w.heap) (r : Rel nb ι H w) : Rel nb ι H w' where
  nbw := by rw [h]; exact r.nbw
  old b cs hb := ⟨(r.old b cs hb).1, fun i x hx => by
    obtain ⟨v, hv, hr⟩ := (r.old b cs hb).2 i x hx
    exact ⟨v, (cell?_of_heap (w := w) (w' := w') (by rw [h]) _).trans hv, hr⟩⟩
  row k l cs es fz ty hk ho := by
    obtain ⟨h1, h2, h3, h4⟩ := r.row k l cs es fz ty hk ho
    refine ⟨fun i x hx => ?_, fun hf i v hv => ?_, fun he i hi => ?_, h4.of_heap (by rw [h])⟩
    · obtain ⟨v, hv, hr⟩ := h1 i x hx
      exact ⟨v, (cell?_of_heap (w := w) (w' := w') (by rw [h]) _).trans hv, hr⟩
    · exact (frozen?_of_heap (w := w) (w' := w') (by rw [h]) _).trans (h2 hf i v ((cell?_of_heap (w := w) (w' := w') (by rw [h]) _).symm.trans hv))
    · obtain ⟨v, hv⟩ := h3 he i hi
      exact ⟨v, (cell?_of_heap (w := w) (w' := w') (by rw [h]) _).trans hv⟩
  iter k l s pos hk ho := by rw [h]; exact r.iter k l s pos hk ho
  dom k l hk := by rw [h]; exact r.dom k l hk
  inj := r.inj
  lt := r.lt
  fz b c hb := by
    obtain ⟨h1, h2, h3⟩ := r.fz b c hb
    exact ⟨by rw [h]; exact h1, fun i => (cell?_of_heap (w := w) (w' := w') (by rw [h]) _).trans (h2 i), h3⟩
  inv := nb.keep w w' (fun b _ => by rw [h]) r.inv
theorem Rel.held {nb : NB} {ι : Emb} {H : Heap} {w : World} (r : Rel nb ι H w) {b o : Nat} {vs : List Value} (h : ι.holds b o vs) : ∀ i v, vs[i]? = some v → w.cell? ⟨b, o + i, none⟩ = some v := fun i v hv => by
  obtain ⟨c, h1, h2⟩ := h
  rw [(r.fz b c h1).2.1]
  exact h2 i v hv
def FRel (nb : NB) (ι : Emb) (fr : Fr) (tmps : Array Value) : Prop := ∀ t, VRel nb ι (fr t) (tmps.getD t undef)
theorem FRel.mono {nb : NB} {ι ι' : Emb} (h : ι.le ι') {fr : Fr} {tmps : Array Value} (r : FRel nb ι fr tmps) : FRel nb ι' fr tmps := fun t => (r t).mono h
theorem FRel.set {nb : NB} {ι : Emb} {fr : Fr} {tmps : Array Value} (r : FRel nb ι fr tmps) {d : Nat} (hd : d < tmps.size) {x : AV} {v : Value} (h : VRel nb ι x v) :
    FRel nb ι (fr.set d x) (tmps.setIfInBounds d v) := fun t => by
  by_cases e : t = d
  · subst e
    simp only [Fr.set, Nat.beq_refl, cond_true]
    simpa [Array.getD_eq_getD_getElem?, hd] using h
  · have e' : Nat.beq t d = false := by
      cases hb : Nat.beq t d with
      | false => rfl
      | true => exact absurd (Nat.eq_of_beq_eq_true hb) e
    simp only [Fr.set, e', cond_false]
    have : (tmps.setIfInBounds d v).getD t undef = tmps.getD t undef := by
      simp only [Array.getD_eq_getD_getElem?, Array.getElem?_setIfInBounds_ne (Ne.symm e)]
    rw [this]; exact r t
end Go.Lite

/-
  Content, told in one way, is what it was.
-/
namespace Go.Lite
open Go
variable {nb : NB} {ι : Emb} {H : Heap} {w : World}
theorem VRel.L {es n : Nat} {f f' : Bool} {cs : List AV} {v : Value} (hf : n = 0 → f' = true → f = true) (h : VRel nb ι (.lst es n f cs) v) : VRel nb ι (.L f' es cs n) v := by
  simp only [VRel] at h
  obtain ⟨h0, a, cap, rfl, h1, h2, h3, h4⟩ := h
  cases n with
  | zero =>
    simp only [AV.L, VRel]
    exact ⟨rfl, a, cap, rfl, h1, fun e => h2 (hf rfl e), h3, fun e => absurd rfl e⟩
  | succ n =>
    simp only [AV.L, VRel]
    exact ⟨h0, a, cap, rfl, h1, fun e => by simp at e, h3, h4⟩
theorem L_pure {es n : Nat} {f : Bool} {cs : List AV} : (AV.L f es cs n).pure = true := by
  cases n <;> rfl
theorem canon_sound {x y : AV} {v : Value} (h : canon x = some y) (hv : VRel nb ι x v) : VRel nb ι y v ∧ y.pure = true := by
  unfold canon at h
  split at h
  · simp only [Option.some.injEq] at h
    subst h
    simp only [VRel] at hv ⊢
    subst hv
    exact ⟨⟨rfl, none, 0, rfl, Nat.le_refl _, fun _ => rfl, fun _ => rfl, fun e => absurd rfl e⟩, rfl⟩
  · simp only [Option.some.injEq] at h
    subst h
    simp only [VRel] at hv ⊢
    obtain ⟨a, cap, rfl⟩ := hv
    exact ⟨⟨rfl, some a, cap, rfl, Nat.zero_le _, (fun e => by simp at e), (fun e => by cases e), fun e => absurd rfl e⟩, rfl⟩
  · simp only [Option.some.injEq] at h
    subst h
    exact ⟨hv.L fun _ e => e, L_pure⟩
  · split at h
    case isFalse => cases h
    rename_i hp
    simp only [Option.some.injEq] at h
    subst h
    exact ⟨hv, hp⟩
theorem canonL_sound : ∀ {xs ys : List AV} {vs : List Value}, canonL xs = some ys → VRels nb ι xs vs → VRels nb ι ys vs ∧ pures ys = true
  | [], ys, vs, h, hv => by
    simp only [canonL, Option.some.injEq] at h
    subst h
    exact ⟨hv, rfl⟩
  | x :: xs, ys, vs, h, hv => by
    simp only [canonL, Option.bind_eq_some_iff, Option.map_eq_some_iff] at h
    obtain ⟨y, hy, zs, hz, rfl⟩ := h
    simp only [VRels] at hv
    obtain ⟨u, us, rfl, hu, hus⟩ := hv
    obtain ⟨g1, g2⟩ := canon_sound hy hu
    obtain ⟨g3, g4⟩ := canonL_sound hz hus
    exact ⟨by simp only [VRels]; exact ⟨u, us, rfl, g1, g3⟩, by simp only [pures, g2, g4, Bool.and_self]⟩
def cellsAt (w : World) (b : Nat) : Array Value :=
  match w.heap[b]? with
  | some (.cells c _ _) => c
  | _ => #[]
theorem cellsAt_cell (w : World) (b i : Nat) : w.cell? ⟨b, i, none⟩ = (cellsAt w b)[i]? := by
  unfold World.cell? cellsAt
  cases w.heap[b]? with
  | none => simp
  | some o => cases o <;> simp
def Emb.freeze (ι : Emb) (w : World) (b : Nat) : Emb := ⟨ι.map, fun b' => match ι.fz b' with | some c => some c | none => if b' = b then some (cellsAt w b) else none⟩
theorem Emb.le_freeze {b : Nat} : ι.le (ι.freeze w b) := ⟨fun _ _ h => h, fun b' c h => by simp only [Emb.freeze, h]⟩
theorem Rel.settleH {k : Nat} {l : Loc} {cs : List AV} {es : Nat} {fz : Bool} {ty : Option Nat} {H' : Heap} (r : Rel nb ι H w) (hk : ι k = some l) (hg : H.t.get k = some (.row cs es fz ty)) (hH : ∀ j, H'.t.get j = if j = k then some (.row cs es true ty) else H.t.get j) (hHn : H'.n = H.n) (hHb : H'.base = H.base) :
    Rel nb (ι.freeze w l.blk) H' w ∧ Ext nb ι H w (ι.freeze w l.blk) H' w ∧ (ι.freeze w l.blk).fz l.blk = some (cellsAt w l.blk) := by
  have hle : ι.le (ι.freeze w l.blk) := Emb.le_freeze
  have hget : ∀ j o, H'.t.get j = some o → ∃ o', H.t.get j = some o' := fun j o h => by
    rw [hH] at h
    by_cases e : j = k
    · subst e; exact ⟨_, hg⟩
    · rw [if_neg e] at h; exact ⟨_, h⟩
  refine ⟨⟨r.nbw, ?_, ?_, ?_, ?_, ?_, ?_, ?_, r.inv⟩, ⟨hle, Nat.le_refl _, fun _ _ _ => rfl, fun k l h _ => ⟨k, l, h, rfl⟩, fun _ _ h => .inl h, by rw [hHn]; exact Nat.le_refl _, fun j _ hj => ?_, hHb, ⟨rfl, rfl, rfl⟩, fun b c hb => ?_⟩, ?_⟩
  · intro b bs hb
    rw [hHb] at hb
    refine ⟨(r.old b bs hb).1, fun i x hx => ?_⟩
    obtain ⟨v, hv, hr⟩ := (r.old b bs hb).2 i x hx
    exact ⟨v, hv, hr.mono (Emb.bare_mono hle)⟩
  · intro j q ds es' fz' ty' hj ho
    rw [hH] at ho
    by_cases e : j = k
    · subst e
      rw [if_pos rfl] at ho
      simp only [Option.some.injEq, Obj.row.injEq] at ho
      obtain ⟨rfl, rfl, rfl, rfl⟩ := ho
      obtain ⟨h1, h2, h3, h4⟩ := r.row j q cs es fz ty hj hg
      refine ⟨fun i x hx => ?_, fun h => by simp at h, h3, h4⟩
      obtain ⟨v, hv, hr⟩ := h1 i x hx
      exact ⟨v, hv, hr.mono hle⟩
    · rw [if_neg e] at ho
      obtain ⟨h1, h2, h3, h4⟩ := r.row j q ds es' fz' ty' hj ho
      refine ⟨fun i x hx => ?_, h2, h3, h4⟩
      obtain ⟨v, hv, hr⟩ := h1 i x hx
      exact ⟨v, hv, hr.mono hle⟩
  · intro j q s pos hj ho
    rw [hH] at ho
    by_cases e : j = k
    · rw [if_pos e] at ho; simp at ho
    · rw [if_neg e] at ho; exact r.iter j q s pos hj ho
  · exact fun j q hj => by rw [hHn]; exact r.dom j q hj
  · intro j j' q q' o1 o2 hj hj' h1 h2 hb
    obtain ⟨p1, e1⟩ := hget j o1 h1
    obtain ⟨p2, e2⟩ := hget j' o2 h2
    exact r.inj j j' q q' p1 p2 hj hj' e1 e2 hb
  · intro j o h
    obtain ⟨p1, e1⟩ := hget j o h
    rw [hHn]
    exact r.lt j p1 e1
  · intro b c hb
    by_cases hbl : b = l.blk
    · subst hbl
      refine ⟨(r.dom k l hk).2.1, fun i => ?_, fun j q o hj ho hq => ?_⟩
      · simp only [Emb.freeze] at hb
        cases hf : ι.fz l.blk with
        | some c' =>
          rw [hf] at hb
          simp only [Option.some.injEq] at hb
          subst hb
          exact (r.fz _ _ hf).2.1 i
        | none =>
          rw [hf] at hb
          simp only [if_true, Option.some.injEq] at hb
          subst hb
          exact cellsAt_cell w l.blk i
      · obtain ⟨p1, e1⟩ := hget j o ho
        obtain rfl := r.inj j k q l p1 _ hj hk e1 hg hq
        rw [hH, if_pos rfl] at ho
        simp only [Option.some.injEq] at ho
        exact ⟨_, _, _, ho.symm⟩
    · have hf : ι.fz b = some c := by
        simp only [Emb.freeze] at hb
        cases hf : ι.fz b with
        | some c' => rw [hf] at hb; simpa using hb
        | none => rw [hf, if_neg hbl] at hb; cases hb
      obtain ⟨g1, g2, g3⟩ := r.fz b c hf
      refine ⟨g1, g2, fun j q o hj ho hq => ?_⟩
      rw [hH] at ho
      by_cases e : j = k
      · rw [if_pos e] at ho
        simp only [Option.some.injEq] at ho
        exact ⟨_, _, _, ho.symm⟩
      · rw [if_neg e] at ho
        exact g3 j q o hj ho hq
  · rw [hH, if_neg]
    rintro rfl
    rw [hk] at hj; cases hj
  · simp only [Emb.freeze] at hb
    cases hf : ι.fz b with
    | some c' => rw [hf] at hb; exact .inl hb
    | none =>
      rw [hf] at hb
      by_cases hbl : b = l.blk
      · exact .inr (.inr ⟨k, l, hk, hbl.symm⟩)
      · rw [if_neg hbl] at hb; cases hb
  · simp only [Emb.freeze]
    cases hf : ι.fz l.blk with
    | some c' =>
      simp only [Option.some.injEq]
      apply Array.ext_getElem?
      intro i
      rw [← (r.fz _ _ hf).2.1 i, cellsAt_cell]
    | none => simp
theorem Rel.settle {k : Nat} {l : Loc} {cs : List AV} {es : Nat} {fz : Bool} {ty : Option Nat} (r : Rel nb ι H w) (hk : ι k = some l) (hg : H.t.get k = some (.row cs es fz ty)) :
    Rel nb (ι.freeze w l.blk) (H.put k (.row cs es true ty)) w ∧ Ext nb ι H w (ι.freeze w l.blk) (H.put k (.row cs es true ty)) w ∧ (ι.freeze w l.blk).fz l.blk = some (cellsAt w l.blk) :=
  r.settleH hk hg (fun j => by simp only [Heap.put, T.get_set]) rfl rfl
end Go.Lite

/-
  From the program's code to the interpreter's.
-/
namespace Go.Lite
open Go
def absFlat : Value → Option AV
  | .bool b => some (.bool b)
  | .int k n => some (.int k n)
  | .string s => some (.str (s.data.toList.map (·.toNat)))
  | .pointer none => some .nilp
  | .slice none 0 0 => some .nils
  | .nilFunc => some .nilf
  | .nilIface => some .nili
  | .map none => some .nilm
  | _ => none
def absFlats : List Value → Option (List AV)
  | [] => some []
  | v :: vs => (absFlat v).bind fun x => (absFlats vs).map (x :: ·)
def absC : Value → Option AV
  | .agg cs => (absFlats cs.toList).map .agg
  | .tuple cs => (absFlats cs.toList).map .tuple
  | .iface t v => (absFlat v).map (.iface t)
  | v => absFlat v
variable (P : Program)
def sizeT (t : TypeId) : Option Nat := (P.info? t).map (·.size)
def zeroT (t : TypeId) : Option (List AV) := (P.info? t).bind fun i => i.zero.bind fun z =>
  if z.cells.size = i.size then absFlats z.cells.toList else none
def aggT (t : TypeId) : Option Bool := (P.underlying t).map fun | .struct _ | .array _ _ => true | _ => false
def scalarT (t : TypeId) : Option Nat :=
  match P.underlying t with
  | some .bool => some 0
  | some (.int _) => some 1
  | some .string => some 2
  | _ => none
def eqFieldsT : List Field → Option (List (Nat × Nat))
  | [] => some []
  | f :: fs => if f.name ≠ "_" then (scalarT P f.type).bind fun q => (eqFieldsT fs).map ((f.offset, q) :: ·) else none
def eqT (t : TypeId) : Option EqT :=
  match P.underlying t with
  | some .bool => some .bool
  | some (.pointer _) => some .ptr
  | some (.slice _) => some .slc
  | some (.func ..) => some .fn
  | some (.int _) | some .string => some .none
  | some (.struct fs) => bif !P.stoodInHeld t && !P.eqGuardType P.depth t then (eqFieldsT P fs.toList).map .many else none
  | some (.array 1 e) => bif !P.eqGuardType P.depth t && (sizeT P e).isSome then (scalarT P e).map fun q => .many [(0, q)] else none
  | _ => none
def slimX (nt : Nat) : Operand → Option SX
  | .tmp t => if t < nt then some (.tmp t) else none
  | .const v => (absC v).map .lit
  | .global g => if g < P.globals.size then some (.lit (.ptr (.old g) 0)) else none
  | .func f => some (.lit (.func f []))
def slimXs (nt : Nat) : List Operand → Option (List SX)
  | [] => some []
  | x :: xs => (slimX P nt x).bind fun y => (slimXs nt xs).map (y :: ·)
def slimXo (nt : Nat) : Option Operand → Option (Option SX)
  | none => some none
  | some x => (slimX P nt x).map some
def partsOf (nt : Nat) (place : Nat → Option (Nat × Nat)) : List (Nat × Operand) → Option (List (Nat × Nat × SX))
  | [] => some []
  | (i, x) :: rest => (place i).bind fun q => (slimX P nt x).bind fun y => (partsOf nt place rest).map ((q.1, q.2, y) :: ·)
def placesT (fs : List Field) : Option (List (Nat × Nat)) := fs.mapM fun f => (P.info? f.type).map fun i => (f.offset, i.size)
def slimP (nt : Nat) (op : Op) : Option POp :=
  match op with
  | .move x => (slimX P nt x).map .move
  | .assign x => (slimX P nt x).map .move
  | .pick c a b => (slimX P nt c).bind fun c => (slimX P nt a).bind fun a => (slimX P nt b).map fun b => .pick c a b
  | .build t parts => (zeroT P t).bind fun zs =>
    match P.underlying t with
    | some (.struct fs) => (placesT P fs.toList).bind fun pl => (partsOf P nt (fun i => pl[i]?) parts.toList).map fun ps => .build zs ps
    | some (.array _ e) => (sizeT P e).bind fun s => (partsOf P nt (fun i => some (i * s, s)) parts.toList).map fun ps => .build zs ps
    | _ => none
  | .load t a => (slimX P nt a).bind fun a => (aggT P t).bind fun g => (sizeT P t).map fun s => bif g then .loadn s a else .load1 a
  | .nilCheck x => (slimX P nt x).map .nilchk
  | .binOp op t x y _ => (slimX P nt x).bind fun x => (slimX P nt y).bind fun y =>
    match op with
    | .eql | .neq => (eqT P t).map fun e => .bin op e x y
    | _ => some (.bin op .none x y)
  | .unOp .not _ x => (slimX P nt x).map .not
  | .unOp .neg _ x => (slimX P nt x).map .neg
  | .convert src dst x => (slimX P nt x).bind fun x =>
    match P.underlying src, P.underlying dst with
    | some (.int _), some (.int k) => some (.toInt k x)
    | some .string, some .string => some (.strOf x)
    | some (.slice e), some .string => match P.underlying e with
      | some (.int .u8) => some (.bytesStr x)
      | _ => none
    | _, _ => none
  | .makeInterface t x => match P.underlying t with
    | some (.interface _) => none
    | some _ => (slimX P nt x).map fun x => .mkIface t x
    | none => none
  | .makeFunc (.func f) first caps => if first.isEmpty then (slimXs P nt caps.toList).map fun cs => .closure f cs else none
  | .slice t x lo hi mx => (slimX P nt x).bind fun x => (slimXo P nt lo).bind fun lo => (slimXo P nt hi).bind fun hi => (slimXo P nt mx).bind fun mx =>
    match P.underlying t with
    | some (.slice e) => (sizeT P e).bind fun s => match mx, hi with
      | some _, none => none
      | _, _ => some (.sliceS s x lo hi mx)
    | some .string => match mx with
      | none => some (.sliceT x lo hi)
      | some _ => none
    | _ => none
  | .fieldAddr t x f => (slimX P nt x).bind fun x =>
    match P.underlying t with
    | some (.struct fs) => (fs[f]?).bind fun f => (sizeT P f.type).bind fun s => if s = 0 then none else some (.faddr f.offset x)
    | _ => none
  | .field t x f => (slimX P nt x).bind fun x =>
    match P.underlying t with
    | some (.struct fs) => (fs[f]?).bind fun f => (sizeT P f.type).bind fun s => (aggT P f.type).map fun g => bif g then .fieldn f.offset s x else .field1 f.offset x
    | _ => none
  | .indexAddr t x i => (slimX P nt x).bind fun x => (slimX P nt i).bind fun i =>
    match P.underlying t with
    | some (.slice e) => (sizeT P e).map fun s => .iaddr s x i
    | some (.array n e) => (sizeT P e).map fun s => .iaddrA n s x i
    | _ => none
  | .index t x i => (slimX P nt x).bind fun x => (slimX P nt i).bind fun i =>
    match P.underlying t with
    | some .string => some (.indexT x i)
    | some (.array n e) => (sizeT P e).bind fun s => (aggT P e).bind fun g => if s = 1 ∧ g = false then some (.indexA1 n x i) else none
    | _ => none
  | .extract x i => (slimX P nt x).map fun x => .extract x i
  | .typeAssert x _ t ok => (slimX P nt x).bind fun x =>
    match P.underlying t with
    | some (.interface _) => none
    | some _ => bif ok then (P.info? t).bind fun i => i.zero.bind fun z => (absC z).map fun z => .assertOk x t z else some (.assertT x t)
    | none => none
  | .call { callee := .builtin .len, args, argTypes } => (args[0]?).bind fun x => (slimX P nt x).bind fun x => (argTypes[0]?).bind fun t =>
    match P.underlying t with
    | some .string => some (.lenT x)
    | some (.slice _) => some (.lenS x)
    | _ => none
  | .call { callee := .builtin .min, args, .. } => match args.toList with
    | [x, y] => (slimX P nt x).bind fun x => (slimX P nt y).map fun y => .min2 x y
    | _ => none
  | .call { callee := .builtin .max, args, .. } => match args.toList with
    | [x, y] => (slimX P nt x).bind fun x => (slimX P nt y).map fun y => .max2 x y
    | _ => none
  | _ => none
def slimA (nt : Nat) (op : Op) : Option AOp :=
  match op with
  | .alloc t => (zeroT P t).map (.newc t)
  | .box t x => (slimX P nt x).map (.box t)
  | .buildSlice t len parts =>
    match P.underlying t with
    | some (.slice e) => (sizeT P e).bind fun s => (zeroT P e).bind fun zs =>
      if s ≠ 0 ∧ len * s ≤ 16777216 then (partsOf P nt (fun i => some (i * s, s)) parts.toList).map fun ps => .buildS (rep zs len) len ps else none
    | _ => none
  | .makeSlice t l c => (slimX P nt l).bind fun l => (slimX P nt c).bind fun c =>
    match P.underlying t with
    | some (.slice e) => (P.info? e).bind fun i => (zeroT P e).bind fun zs => if i.size = 0 then none else some (.makeS zs i.bytes l c)
    | _ => none
  | .convert src dst x => (slimX P nt x).bind fun x =>
    match P.underlying src, P.underlying dst with
    | some .string, some (.slice e) => match P.underlying e with
      | some (.int .u8) => some (.strBytes x)
      | _ => none
    | _, _ => none
  | .range t x => (slimX P nt x).bind fun x =>
    match P.underlying t with
    | some .string => some (.rangeT x)
    | _ => none
  | _ => none
def slimW (nt : Nat) (op : Op) : Option WOp :=
  match op with
  | .store t a x => (slimX P nt a).bind fun a => (slimX P nt x).bind fun x => (sizeT P t).map fun s => .store s a x
  | .next it isString => bif isString then (slimX P nt it).map .nextT else none
  | .call { callee := .builtin .append, args, argTypes } => match args.toList, argTypes.toList with
    | [s, x], [t, u] => (slimX P nt s).bind fun s => (slimX P nt x).bind fun x =>
      match P.underlying t, P.underlying u with
      | some (.slice e), some (.slice _) | some (.slice e), some .string => (P.info? e).bind fun i => (zeroT P e).bind fun zs =>
        if i.bytes ≤ 1048576 then some (.append e i.size i.bytes s x) else none
      | _, _ => none
    | _, _ => none
  | _ => none
def slimOp (nt : Nat) (op : Op) : Option SOp :=
  match slimP P nt op with
  | some o => some (.p o)
  | none => match slimA P nt op with
    | some o => some (.a o)
    | none => match slimW P nt op with
      | some o => some (.w o)
      | none => match op with
        | .call { callee := .value f, args, .. } => (slimX P nt f).bind fun f => (slimXs P nt args.toList).map fun as => .call f as
        | .panic x => (slimX P nt x).map .panic
        | _ => none
def slimGuard (nt : Nat) (ops : Array Oper) : Option (Nat × Bool) → Option (Option (Nat × Bool))
  | none => some none
  | some (j, b) => ((ops[j]?).bind (·.dst)).bind fun (t : Nat) => if t < nt then some (some (t, b)) else none
def slimDst (nt : Nat) : Option Nat → Bool
  | none => true
  | some d => decide (d < nt)
def slimOper (nt : Nat) (ops : Array Oper) (o : Oper) : Option SOper :=
  bif slimDst nt o.dst then (slimGuard nt ops o.guard).bind fun g => (slimOp P nt o.op).map fun q => { dst := o.dst, guard := g, op := q } else none
def slimOpers (nt : Nat) (ops : Array Oper) : List Oper → Option (List SOper)
  | [] => some []
  | o :: l => (slimOper P nt ops o).bind fun q => (slimOpers nt ops l).map (q :: ·)
end Go.Lite

/-
  Regions whose order is open: in which order the interpreter takes their operations, and what is looked at so that every order comes to the same; the slimmed code of a function.
-/
namespace Go.Lite
open Go
def SX.tmps : SX → List Nat
  | .tmp t => [t]
  | .lit _ => []
def tmpsL (l : List SX) : List Nat := l.flatMap SX.tmps
def tmpsO : Option SX → List Nat
  | none => []
  | some x => x.tmps
def tmpsP (l : List (Nat × Nat × SX)) : List Nat := l.flatMap fun p => p.2.2.tmps
def POp.tmps : POp → List Nat
  | .move x | .load1 x | .loadn _ x | .nilchk x | .not x | .neg x | .toInt _ x | .strOf x | .mkIface _ x | .faddr _ x | .field1 _ x | .fieldn _ _ x | .extract x _ | .lenT x | .lenS x | .assertT x _ | .assertOk x _ _ | .bytesStr x => x.tmps
  | .pick c a b => c.tmps ++ a.tmps ++ b.tmps
  | .build _ ps => tmpsP ps
  | .bin _ _ x y | .min2 x y | .max2 x y | .iaddr _ x y | .iaddrA _ _ x y | .indexT x y | .indexA1 _ x y => x.tmps ++ y.tmps
  | .closure _ cs => tmpsL cs
  | .sliceS _ x lo hi mx => x.tmps ++ tmpsO lo ++ tmpsO hi ++ tmpsO mx
  | .sliceT x lo hi => x.tmps ++ tmpsO lo ++ tmpsO hi
def POp.reads : POp → Bool
  | .load1 _ | .loadn _ _ | .bytesStr _ => true
  | _ => false
def AOp.tmps : AOp → List Nat
  | .newc _ _ => []
  | .box _ x | .strBytes x | .rangeT x => x.tmps
  | .buildS _ _ ps => tmpsP ps
  | .makeS _ _ l c => l.tmps ++ c.tmps
def WOp.tmps : WOp → List Nat
  | .store _ a x | .append _ _ _ a x => a.tmps ++ x.tmps
  | .nextT x => x.tmps
def SOp.tmps : SOp → List Nat
  | .p o => o.tmps
  | .a o => o.tmps
  | .w o => o.tmps
  | .call f as => f.tmps ++ tmpsL as
  | .panic x => x.tmps
def SOper.looks (o : SOper) : List Nat := (match o.guard with | some (t, _) => [t] | none => []) ++ o.op.tmps
def SOper.big (o : SOper) : Bool :=
  match o.op with
  | .p _ | .a _ => false
  | _ => true
def SOper.rereads (o : SOper) : Bool :=
  match o.op with
  | .p q => q.reads
  | _ => false
/-! ### The orders' frame -/
def edgesOf (o : Oper) : List Nat := (o.after.toList.filter fun e => Region.binds .any e).map (·.on)
def union (a b : List Nat) : List Nat := a.foldl (fun acc x => if acc.contains x then acc else x :: acc) b
def befOf : List Oper → List (List Nat) → List (List Nat)
  | [], acc => acc
  | o :: l, acc => befOf l (acc ++ [(edgesOf o).foldl (fun s d => union (d :: acc.getD d []) s) []])
structure Plan where
  pre : List Nat
  phs : List (Nat × List Nat × List Nat)
def bigsIn (bigs : List Nat) (b : List Nat) : Nat := (bigs.filter fun i => b.contains i).length
def planOf (sops : List SOper) (bef : List (List Nat)) : Plan :=
  let ix := List.range sops.length
  let isBig := fun i => (sops[i]?).any SOper.big
  let bigs := ix.filter isBig
  let phase := fun i => bigsIn bigs (bef.getD i [])
  let smalls := fun k => ix.filter fun i => !isBig i && phase i == k
  { pre := smalls 0
    phs := bigs.zipIdx.map fun (wi, k) =>
      (wi, ix.filter fun i => !isBig i && (sops[i]?).any SOper.rereads && decide (phase i ≤ k) && !(bef.getD wi []).contains i, smalls (k + 1)) }
def Plan.order (p : Plan) : List Nat := p.pre ++ p.phs.flatMap fun q => q.1 :: q.2.2
def extOk (bef : List (List Nat)) : List Nat → List Nat → Bool
  | _, [] => true
  | done, i :: l => !done.contains i && (bef.getD i []).all done.contains && extOk bef (i :: done) l
def phsOk (sops : List SOper) (bef : List (List Nat)) : List Nat → Option Nat → List (Nat × List Nat × List Nat) → Bool
  | _, _, [] => true
  | done, last, (wi, cks, sm) :: l =>
    (sops[wi]?).any SOper.big &&
    (match last with | none => true | some v => (bef.getD wi []).contains v) &&
    (done.all fun i => !(sops[i]?).any (fun o => !o.big && o.rereads) || (bef.getD wi []).contains i || cks.contains i) &&
    (cks.all fun i => done.contains i && (sops[i]?).any (fun o => !o.big && o.rereads && ((List.range sops.length).all fun j =>
      match (sops[j]?).bind (·.dst) with | some d => !o.looks.contains d || (bef.getD i []).contains j | none => true))) &&
    (sm.all fun i => (sops[i]?).any (fun o => !o.big) && (bef.getD i []).contains wi) &&
    phsOk sops bef (sm.reverse ++ wi :: done) (some wi) l
def planOk (ops : List Oper) (sops : List SOper) (bef : List (List Nat)) (p : Plan) : Bool :=
  let n := sops.length
  let ix := List.range n
  decide (bef.length = n) &&
  (ix.all fun i => (edgesOf (ops.getD i default)).all fun d => decide (d < i)) &&
  (ix.all fun i => (bef.getD i []).all fun j => (edgesOf (ops.getD i default)).any fun d => d == j || (bef.getD d []).contains j) &&
  (ix.all fun i => ix.all fun j => i == j || (match (sops[j]?).bind (·.dst) with
    | some d => ((sops[i]?).bind (·.dst) != some d) && (!(sops[i]?).any (fun o => o.looks.contains d) || (bef.getD i []).contains j || (bef.getD j []).contains i)
    | none => true)) &&
  (ix.all fun i => p.order.contains i) &&
  (p.order.all fun i => decide (i < n)) &&
  extOk bef [] p.order &&
  (p.pre.all fun i => (sops[i]?).any fun o => !o.big) &&
  phsOk sops bef p.pre.reverse none p.phs
def pickAll (sops : List SOper) : List Nat → Option (List SOper)
  | [] => some []
  | i :: l => (sops[i]?).bind fun o => (pickAll sops l).map (o :: ·)
def pickPhs (sops : List SOper) : List (Nat × List Nat × List Nat) → Option (List (SOper × List SOper × List SOper))
  | [] => some []
  | (wi, cks, sm) :: l => (sops[wi]?).bind fun o => (pickAll sops cks).bind fun c => (pickAll sops sm).bind fun s => (pickPhs sops l).map ((o, c, s) :: ·)
/-! ### Two stores at the end, in either order -/
def frameOk (ops : List Oper) (sops : List SOper) (bef : List (List Nat)) : Bool :=
  let n := sops.length
  let ix := List.range n
  decide (bef.length = n) &&
  (ix.all fun i => (edgesOf (ops.getD i default)).all fun d => decide (d < i)) &&
  (ix.all fun i => (bef.getD i []).all fun j => (edgesOf (ops.getD i default)).any fun d => d == j || (bef.getD d []).contains j) &&
  (ix.all fun i => ix.all fun j => i == j || (match (sops[j]?).bind (·.dst) with
    | some d => ((sops[i]?).bind (·.dst) != some d) && (!(sops[i]?).any (fun o => o.looks.contains d) || (bef.getD i []).contains j || (bef.getD j []).contains i)
    | none => true))
def splitTail : List (Nat × List Nat × List Nat) → Option (List (Nat × List Nat × List Nat) × Nat × Nat)
  | [(wi, _, []), (wj, _, [])] => some ([], wi, wj)
  | q :: l => (splitTail l).map fun r => (q :: r.1, r.2)
  | [] => none
def planOk2 (ops : List Oper) (sops : List SOper) (bef : List (List Nat)) (p : Plan) (wi wj : Nat) : Bool :=
  frameOk ops sops bef &&
  ((List.range sops.length).all fun i => p.order.contains i || i == wi || i == wj) &&
  extOk bef [] (p.order ++ [wi, wj]) && extOk bef [] (p.order ++ [wj, wi]) &&
  (p.pre.all fun i => (sops[i]?).any fun o => !o.big) &&
  phsOk sops bef p.pre.reverse none p.phs &&
  (sops[wi]?).any SOper.big && (sops[wj]?).any SOper.big &&
  (p.phs.all fun q => (bef.getD wi []).contains q.1 && (bef.getD wj []).contains q.1) &&
  (p.order.all fun i => !(sops[i]?).any (fun o => !o.big && o.rereads) || ((bef.getD wi []).contains i && (bef.getD wj []).contains i))
variable (P : Program)
def slimDraw (nt : Nat) (ops : Array Oper) : Option SCode :=
  (slimOpers P nt ops ops.toList).bind fun sops =>
    let bef := befOf ops.toList []
    let p := planOf sops bef
    bif planOk ops.toList sops bef p then (pickAll sops p.pre).bind fun pre => (pickPhs sops p.phs).map fun phs => .draw pre phs else
      (splitTail p.phs).bind fun q =>
        bif planOk2 ops.toList sops bef ⟨p.pre, q.1⟩ q.2.1 q.2.2 then
          (pickAll sops p.pre).bind fun pre => (pickPhs sops q.1).bind fun phs => (sops[q.2.1]?).bind fun a => (sops[q.2.2]?).map fun b => .draw2 pre phs a b
        else none
def stuck : SCode := .ops [{ dst := none, guard := none, op := .p (.nilchk (.lit .undef)) }]
def orStuck : Option SCode → SCode
  | some c => c
  | none => stuck
def slimCode (nt : Nat) : Code → SCode
  | .skip => .skip
  | .region _ ops false => orStuck ((slimOpers P nt ops ops.toList).map .ops)
  | .region _ ops true => orStuck (slimDraw P nt ops)
  | .seq a b => .seq (slimCode nt a) (slimCode nt b)
  | .cond c a b => orStuck ((slimX P nt c).map fun c => .cond c (slimCode nt a) (slimCode nt b))
  | .block id c => .block id (slimCode nt c)
  | .loop c => .loop (slimCode nt c)
  | .exit id => .exit id
  | .ret => .ret
  | _ => stuck
theorem orStuck_cases {x : Option SCode} : (∃ c, x = some c ∧ orStuck x = c) ∨ (x = none ∧ orStuck x = stuck) := by
  cases x with
  | none => exact .inr ⟨rfl, rfl⟩
  | some c => exact .inl ⟨c, rfl, rfl⟩
def slimRes : List ResultVar → Option (List ResV)
  | [] => some []
  | .tmp t :: l => (slimRes l).map (.tmp t :: ·)
  | .cell a t :: l => (aggT P t).bind fun g => (sizeT P t).bind fun s => (slimRes l).map ((bif g then .celln a s else .cell1 a) :: ·)
def slimFunc (fn : Func) : Option SFunc :=
  bif fn.name == "runtime.NumGoroutine" then none else
  fn.body.bind fun c => (slimRes P fn.results.toList).map fun r => { nt := fn.ntmps, body := slimCode P fn.ntmps c, res := r }
def slimPrg (own : FuncId → Option (List AV → Heap → R)) (mode : FuncId → Nat) : Prg := { code := fun f => (P.funcs[f]?).bind (slimFunc P), own := own, mode := mode }
end Go.Lite

/-
  What an operation comes to hangs on the temporaries that it names alone.
-/
namespace Go.Lite
open Go
def Fr.mask (fr : Fr) (l : List Nat) : Fr := fun t => if t ∈ l then fr t else .undef
theorem SX.congr {x : SX} {f g : Fr} (h : ∀ t ∈ x.tmps, f t = g t) : x.ev f = x.ev g := by
  cases x with
  | tmp t => exact h t (by simp [SX.tmps])
  | lit v => rfl
theorem tmpsL_congr {l : List SX} {f g : Fr} (h : ∀ t ∈ tmpsL l, f t = g t) : l.map (·.ev f) = l.map (·.ev g) :=
  List.map_congr_left fun x hx => SX.congr fun t ht => h t (List.mem_flatMap.2 ⟨x, hx, ht⟩)
theorem tmpsP_congr {l : List (Nat × Nat × SX)} {f g : Fr} (h : ∀ t ∈ tmpsP l, f t = g t) : (l.map fun p => (p.1, p.2.1, p.2.2.ev f)) = l.map fun p => (p.1, p.2.1, p.2.2.ev g) :=
  List.map_congr_left fun x hx => by rw [SX.congr fun t ht => h t (List.mem_flatMap.2 ⟨x, hx, ht⟩)]
theorem optNat_congr {x : Option SX} {f g : Fr} (h : ∀ t ∈ tmpsO x, f t = g t) : optNat f x = optNat g x := by
  cases x with
  | none => rfl
  | some x => simp only [optNat]; rw [SX.congr h]
theorem bnd_congr {x : Option SX} {f g : Fr} {d : Nat} (h : ∀ t ∈ tmpsO x, f t = g t) : bnd f d x = bnd g d x := by
  cases x with
  | none => rfl
  | some x => simp only [bnd]; rw [SX.congr h]
theorem POp.congr {o : POp} {f g : Fr} {H : Heap} (h : ∀ t ∈ o.tmps, f t = g t) : o.val f H = o.val g H := by
  have A : ∀ {l l' : List Nat}, (∀ t ∈ l ++ l', f t = g t) → (∀ t ∈ l, f t = g t) ∧ (∀ t ∈ l', f t = g t) := fun h => ⟨fun t ht => h t (List.mem_append_left _ ht), fun t ht => h t (List.mem_append_right _ ht)⟩
  cases o <;> simp only [POp.tmps] at h <;> simp only [POp.val]
  case pick c x y => rw [SX.congr (A (A h).1).1, SX.congr (A (A h).1).2, SX.congr (A h).2]
  case build zs ps => rw [tmpsP_congr h]
  case bin op t x y => rw [SX.congr (A h).1, SX.congr (A h).2]
  case min2 x y => rw [SX.congr (A h).1, SX.congr (A h).2]
  case max2 x y => rw [SX.congr (A h).1, SX.congr (A h).2]
  case iaddr s x y => rw [SX.congr (A h).1, SX.congr (A h).2]
  case iaddrA n s x y => rw [SX.congr (A h).1, SX.congr (A h).2]
  case indexT x y => rw [SX.congr (A h).1, SX.congr (A h).2]
  case indexA1 n x y => rw [SX.congr (A h).1, SX.congr (A h).2]
  case closure fn cs => rw [tmpsL_congr h]
  case sliceS s x lo hi mx => rw [SX.congr (A (A (A h).1).1).1, optNat_congr (A (A (A h).1).1).2, optNat_congr (A (A h).1).2, optNat_congr (A h).2]
  case sliceT x lo hi =>
    rw [SX.congr (A (A h).1).1]
    congr 1
    funext s
    rw [bnd_congr (A (A h).1).2]
    congr 1
    funext l
    rw [bnd_congr (A h).2]
  all_goals rw [SX.congr h]
theorem POp.still {o : POp} {f : Fr} {H H' : Heap} (h : o.reads = false) : o.val f H = o.val f H' := by
  cases o <;> first | rfl | (simp [POp.reads] at h)
theorem Heap.cells_push {H : Heap} {o : Obj} {p : Blk} {cs : List AV} (hlt : ∀ k o, H.t.get k = some o → k < H.n) (h : H.cells p = some cs) : (H.push o).cells p = some cs := by
  cases p with
  | old b => exact h
  | new k =>
    simp only [Heap.cells, Option.bind_eq_some_iff] at h
    obtain ⟨q, hq, hc⟩ := h
    have := hlt k q hq
    simp only [Heap.cells, Heap.push, T.get_set]
    rw [if_neg (by omega), hq]
    exact hc
  | val ds => exact h
theorem Heap.ld1_push {H : Heap} {o : Obj} {p : Blk} {i : Nat} {x : AV} (hlt : ∀ k o, H.t.get k = some o → k < H.n) (h : H.ld1 p i = some x) : (H.push o).ld1 p i = some x := by
  simp only [Heap.ld1, Option.bind_eq_some_iff] at h ⊢
  obtain ⟨cs, hc, hx⟩ := h
  exact ⟨cs, Heap.cells_push hlt hc, hx⟩
theorem Heap.ldn_push {H : Heap} {o : Obj} {p : Blk} {i n : Nat} {xs : List AV} (hlt : ∀ k o, H.t.get k = some o → k < H.n) (h : H.ldn p i n = some xs) : (H.push o).ldn p i n = some xs := by
  simp only [Heap.ldn, Option.bind_eq_some_iff] at h ⊢
  obtain ⟨cs, hc, hx⟩ := h
  exact ⟨cs, Heap.cells_push hlt hc, hx⟩
theorem POp.push {o : POp} {f : Fr} {H : Heap} {ob : Obj} {v : AV} (hlt : ∀ k o, H.t.get k = some o → k < H.n) (h : o.val f H = some v) : o.val f (H.push ob) = some v := by
  cases hr : o.reads with
  | false => rw [← POp.still (H := H) hr]; exact h
  | true =>
    cases o <;> simp [POp.reads] at hr
    case load1 x =>
      simp only [POp.val, Option.bind_eq_some_iff] at h ⊢
      obtain ⟨q, hq, hx⟩ := h
      exact ⟨q, hq, Heap.ld1_push hlt hx⟩
    case loadn n x =>
      simp only [POp.val, Option.bind_eq_some_iff, Option.map_eq_some_iff] at h ⊢
      obtain ⟨q, hq, xs, hx, rfl⟩ := h
      exact ⟨q, hq, xs, Heap.ldn_push hlt hx, rfl⟩
    case bytesStr x =>
      simp only [POp.val] at h ⊢
      unfold strOfBytes at h ⊢
      cases hx : x.ev f <;> rw [hx] at h <;> first | exact h | skip
      simp only [Option.bind_eq_some_iff] at h ⊢
      obtain ⟨cs, hc, hx⟩ := h
      exact ⟨cs, Heap.ldn_push hlt hc, hx⟩
theorem AOp.congr {o : AOp} {f g : Fr} {k : Nat} (h : ∀ t ∈ o.tmps, f t = g t) : o.val f k = o.val g k := by
  have A : ∀ {l l' : List Nat}, (∀ t ∈ l ++ l', f t = g t) → (∀ t ∈ l, f t = g t) ∧ (∀ t ∈ l', f t = g t) := fun h => ⟨fun t ht => h t (List.mem_append_left _ ht), fun t ht => h t (List.mem_append_right _ ht)⟩
  cases o <;> simp only [AOp.tmps] at h <;> simp only [AOp.val]
  case buildS zs n ps => rw [tmpsP_congr h]
  case makeS zs b l c => rw [SX.congr (A h).1, SX.congr (A h).2]
  all_goals rw [SX.congr h]
theorem WOp.congr {o : WOp} {f g : Fr} {H : Heap} (h : ∀ t ∈ o.tmps, f t = g t) : o.val f H = o.val g H := by
  have A : ∀ {l l' : List Nat}, (∀ t ∈ l ++ l', f t = g t) → (∀ t ∈ l, f t = g t) ∧ (∀ t ∈ l', f t = g t) := fun h => ⟨fun t ht => h t (List.mem_append_left _ ht), fun t ht => h t (List.mem_append_right _ ht)⟩
  cases o <;> simp only [WOp.tmps] at h <;> simp only [WOp.val]
  case store s a x => rw [SX.congr (A h).1, SX.congr (A h).2]
  case append s b a x => rw [SX.congr (A h).1, SX.congr (A h).2]
  case nextT x => rw [SX.congr h]
theorem SOp.congr {call : CallF} {o : SOp} {f g : Fr} {H : Heap} {k : AV → Heap → R} (h : ∀ t ∈ o.tmps, f t = g t) : o.run call f H k = o.run call g H k := by
  have A : ∀ {l l' : List Nat}, (∀ t ∈ l ++ l', f t = g t) → (∀ t ∈ l, f t = g t) ∧ (∀ t ∈ l', f t = g t) := fun h => ⟨fun t ht => h t (List.mem_append_left _ ht), fun t ht => h t (List.mem_append_right _ ht)⟩
  cases o <;> simp only [SOp.tmps] at h <;> simp only [SOp.run]
  case p o => rw [POp.congr h]
  case a o => rw [AOp.congr h]
  case w o => rw [WOp.congr h]
  case call fn as => rw [SX.congr (A h).1, tmpsL_congr (A h).2]
  case panic x => rw [SX.congr h]
theorem wants_congr {q : Option (Nat × Bool)} {f g : Fr} (h : ∀ t b, q = some (t, b) → f t = g t) : wants f q = wants g q := by
  cases q with
  | none => rfl
  | some q => obtain ⟨t, b⟩ := q; simp only [wants]; rw [h t b rfl]
theorem SOper.guard_looks {o : SOper} {t : Nat} {b : Bool} (h : o.guard = some (t, b)) : t ∈ o.looks := by
  unfold SOper.looks; rw [h]; simp
theorem SOper.op_looks {o : SOper} {t : Nat} (h : t ∈ o.op.tmps) : t ∈ o.looks := by
  unfold SOper.looks; exact List.mem_append_right _ h
theorem mask_eq {f : Fr} {l : List Nat} {t : Nat} (h : t ∈ l) : f.mask l t = f t := by simp [Fr.mask, h]
end Go.Lite

/-
  Each operation that leaves the heap alone comes, in the model, to what the interpreter says.
-/
namespace Go.Lite
open Go
variable {P : Program} {nb : NB} {ι : Emb} {H : Heap} {w : World}
theorem absFlat_sound {v : Value} {x : AV} (h : absFlat v = some x) : VRel nb ι x v := by
  unfold absFlat at h
  split at h <;> simp at h <;> subst h <;> simp [VRel, bytesRel]
theorem absFlats_sound : ∀ {vs : List Value} {xs : List AV}, absFlats vs = some xs → VRels nb ι xs vs
  | [], xs, h => by simp [absFlats] at h; subst h; simp [VRels]
  | v :: vs, xs, h => by
    simp only [absFlats, Option.bind_eq_some_iff, Option.map_eq_some_iff] at h
    obtain ⟨x, hx, ys, hy, rfl⟩ := h
    simp only [VRels]
    exact ⟨v, vs, rfl, absFlat_sound hx, absFlats_sound hy⟩
theorem absC_sound {v : Value} {x : AV} (h : absC v = some x) : VRel nb ι x v := by
  unfold absC at h
  split at h
  · simp only [Option.map_eq_some_iff] at h
    obtain ⟨xs, hx, rfl⟩ := h
    simp only [VRel]; exact ⟨_, rfl, absFlats_sound hx⟩
  · simp only [Option.map_eq_some_iff] at h
    obtain ⟨xs, hx, rfl⟩ := h
    simp only [VRel]; exact ⟨_, rfl, absFlats_sound hx⟩
  · simp only [Option.map_eq_some_iff] at h
    obtain ⟨xs, hx, rfl⟩ := h
    simp only [VRel]; exact ⟨_, rfl, absFlat_sound hx⟩
  · exact absFlat_sound h
variable {fr : Fr} {a : Act} {nt : Nat}
theorem slimX_sound (hg : P.globals.size ≤ nb) (hf : FRel nb ι fr a.tmps) {x : Operand} {y : SX} (h : slimX P nt x = some y) : VRel nb ι (y.ev fr) (a.eval x) := by
  unfold slimX at h
  split at h
  · split at h <;> simp at h
    subst h; exact hf _
  · simp only [Option.map_eq_some_iff] at h
    obtain ⟨z, hz, rfl⟩ := h
    exact absC_sound hz
  · split at h <;> simp at h
    subst h
    rename_i hlt
    simp only [SX.ev, VRel, locOf, Act.eval]
    exact ⟨⟨_, 0, 0⟩, ⟨by omega, rfl⟩, rfl⟩
  · simp at h; subst h
    simp only [SX.ev, VRel, Act.eval]
    exact ⟨#[], rfl, by simp [VRels]⟩
theorem slimXs_sound (hg : P.globals.size ≤ nb) (hf : FRel nb ι fr a.tmps) : ∀ {xs : List Operand} {ys : List SX}, slimXs P nt xs = some ys → VRels nb ι (ys.map (·.ev fr)) (xs.map a.eval)
  | [], ys, h => by simp [slimXs] at h; subst h; simp [VRels]
  | x :: xs, ys, h => by
    simp only [slimXs, Option.bind_eq_some_iff, Option.map_eq_some_iff] at h
    obtain ⟨y, hy, zs, hz, rfl⟩ := h
    simp only [List.map_cons, VRels]
    exact ⟨_, _, rfl, slimX_sound hg hf hy, slimXs_sound hg hf hz⟩
/-! ### Inversions -/
theorem VRel.asPtr {x : AV} {v : Value} {q : Blk × Nat} (h : VRel nb ι x v) (e : x.asPtr = some q) : ∃ l, locOf nb ι q.1 l ∧ v = .pointer (some ⟨l.blk, l.off + q.2, none⟩) := by
  cases x <;> simp [AV.asPtr] at e
  subst e; simpa [VRel] using h
theorem VRel.asBool {x : AV} {v : Value} {b : Bool} (h : VRel nb ι x v) (e : x.asBool = some b) : v = .bool b := by
  cases x <;> simp [AV.asBool] at e
  subst e; simpa [VRel] using h
theorem VRel.asStr {x : AV} {v : Value} {s : List Nat} (h : VRel nb ι x v) (e : x.asStr = some s) : ∃ b, v = .string b ∧ bytesRel s b := by
  cases x <;> simp [AV.asStr] at e
  subst e; simpa [VRel] using h
theorem VRel.asNat {x : AV} {v : Value} {n : Nat} (h : VRel nb ι x v) (e : x.asNat = some n) : ∃ k, v = .int k (n : Int) := by
  cases x with
  | int k m =>
    simp only [AV.asNat] at e
    split at e <;> simp at e
    subst e
    simp only [VRel] at h
    exact ⟨k, by rw [h, Int.toNat_of_nonneg ‹_›]⟩
  | _ => simp [AV.asNat] at e
/-! ### Memory that is read -/
theorem base_row (r : Rel nb ι H w) {p : Blk} {l : Loc} {cs : List AV} (hl : locOf nb ι p l) (hc : H.cells p = some cs) :
    ∀ i x, cs[i]? = some x → ∃ v, w.cell? ⟨l.blk, l.off + i, none⟩ = some v ∧ VRel nb ι x v := by
  cases p with
  | old b =>
    simp only [locOf] at hl
    obtain ⟨_, rfl⟩ := hl
    intro i x hx
    obtain ⟨v, hv, hr⟩ := (r.old b cs hc).2 i x hx
    exact ⟨v, by simpa using hv, VRel.mono ι.bare_le x v hr⟩
  | new k =>
    simp only [Heap.cells, Option.bind_eq_some_iff] at hc
    obtain ⟨o, ho, hc⟩ := hc
    cases o with
    | row cs' es fz =>
      simp only [Obj.cells, Option.some.injEq] at hc
      subst hc
      exact (r.row k l _ es fz _ hl ho).1
    | iter s pos => simp [Obj.cells] at hc
  | val ds =>
    simp only [Heap.cells, Option.some.injEq] at hc
    subst hc
    simp only [locOf] at hl
    obtain ⟨vs, hvs, hold⟩ := hl
    intro i x hx
    obtain ⟨v, hv, hr⟩ := hvs.get i x hx
    exact ⟨v, r.held hold i v hv, VRel.mono ι.bare_le x v hr⟩
theorem ld1_sound (r : Rel nb ι H w) {p : Blk} {o : Nat} {l : Loc} {x : AV} (hl : locOf nb ι p l) (h : H.ld1 p o = some x) :
    ∃ v, w.cell? ⟨l.blk, l.off + o, none⟩ = some v ∧ VRel nb ι x v := by
  simp only [Heap.ld1, Option.bind_eq_some_iff] at h
  obtain ⟨cs, hc, hx⟩ := h
  exact base_row r hl hc o x hx
theorem ldn_sound (r : Rel nb ι H w) {p : Blk} {o n : Nat} {l : Loc} {xs : List AV} (hl : locOf nb ι p l) (h : H.ldn p o n = some xs) :
    xs.length = n ∧ ∃ vs : List Value, vs.length = n ∧ w.rangeAt l.blk (l.off + o) vs ∧ VRels nb ι xs vs := by
  simp only [Heap.ldn, Option.bind_eq_some_iff] at h
  obtain ⟨cs, hc, h⟩ := h
  split at h <;> simp only [Option.some.injEq, reduceCtorEq] at h
  rename_i hn
  subst h
  refine ⟨hn, (List.range n).map fun j => (w.cell? ⟨l.blk, l.off + o + j, none⟩).getD undef, by simp, ?_, ?_⟩
  · intro j v hv
    have hjn : j < n := by
      rcases Nat.lt_or_ge j n with h | h
      · exact h
      · rw [List.getElem?_eq_none (by simpa using h)] at hv; simp at hv
    simp only [List.getElem?_map, List.getElem?_range hjn, Option.map_some, Option.some.injEq] at hv
    have hx : ∃ x, cs[o + j]? = some x := by
      have hlen : (List.take n (List.drop o cs))[j]? = some ((List.take n (List.drop o cs))[j]'(by omega)) := List.getElem?_eq_getElem _
      rw [List.getElem?_take_of_lt hjn, List.getElem?_drop] at hlen
      exact ⟨_, hlen⟩
    obtain ⟨x, hx⟩ := hx
    obtain ⟨u, hu, _⟩ := base_row r hl hc _ x hx
    rw [← Nat.add_assoc] at hu
    rw [hu] at hv ⊢
    simpa using hv
  · refine VRels.of_get (by simp [hn]) fun i x v hx hv => ?_
    have hin : i < n := by
      rcases Nat.lt_or_ge i n with h | h
      · exact h
      · rw [List.getElem?_eq_none (by simp; omega)] at hv; simp at hv
    rw [List.getElem?_take_of_lt hin, List.getElem?_drop] at hx
    obtain ⟨u, hu, hr⟩ := base_row r hl hc _ x hx
    simp only [List.getElem?_map, List.getElem?_range hin, Option.map_some, Option.some.injEq] at hv
    rw [← Nat.add_assoc] at hu
    rw [hu] at hv
    simp at hv; subst hv; exact hr
/-! ### Types -/
theorem run_sizeOf {t : TypeId} {n : Nat} (h : sizeT P t = some n) (w : World) : (sizeOf t).run P w = .ok n w := by
  simp only [sizeT, Option.map_eq_some_iff] at h
  obtain ⟨i, hi, rfl⟩ := h
  simp [sizeOf, typeInfo, hi]
theorem run_isAgg {t : TypeId} {g : Bool} (h : aggT P t = some g) (w : World) : (isAgg t).run P w = .ok g w := by
  simp only [aggT, Option.map_eq_some_iff] at h
  obtain ⟨d, hd, h⟩ := h
  unfold isAgg
  rw [Sem.run_bind, run_underlying hd w]
  cases d <;> (subst h; rfl)
theorem zeroT_spec {t : TypeId} {zs : List AV} (h : zeroT P t = some zs) : ∃ i z, P.info? t = some i ∧ i.zero = some z ∧ z.cells.size = i.size ∧ absFlats z.cells.toList = some zs := by
  simp only [zeroT, Option.bind_eq_some_iff] at h
  obtain ⟨i, hi, z, hz, h⟩ := h
  split at h
  · rename_i hs
    exact ⟨i, z, hi, hz, hs, h⟩
  · cases h
theorem run_zeroValue {t : TypeId} {i : TypeInfo} {z : Value} (hi : P.info? t = some i) (hz : i.zero = some z) (w : World) : (zeroValue t).run P w = .ok z w := by
  simp [zeroValue, typeInfo, hi, hz]
end Go.Lite

/-
  Each operation that leaves the heap alone comes, in the model, to what the interpreter says: parts.
-/
namespace Go.Lite
open Go
variable {P : Program} {nb : NB} {ι : Emb} {H : Heap} {w : World} {fr : Fr} {a : Act} {nt : Nat}
/-! ### Parts put together -/
theorem fill_cells (off : Nat) : ∀ (vs : List Value) (k : Nat) (cells : Array Value), off + k + vs.length ≤ cells.size →
    ((vs.zipIdx k).foldl (fun (cs : Array Value) (p : Value × Nat) => cs.setIfInBounds (off + p.2) p.1) cells).toList = cells.toList.take (off + k) ++ vs ++ cells.toList.drop (off + k + vs.length)
  | [], k, cells, h => by simp
  | v :: vs, k, cells, h => by
    simp only [List.length_cons] at h
    simp only [List.zipIdx_cons, List.foldl_cons]
    rw [fill_cells off vs (k + 1) _ (by simp only [Array.size_setIfInBounds]; omega)]
    have hlt : off + k < cells.toList.length := by simp; omega
    simp only [Array.toList_setIfInBounds, List.length_cons]
    rw [show off + (k + 1) = off + k + 1 by omega]
    rw [List.take_add_one, List.getElem?_set_self hlt, List.take_set_of_le (Nat.le_refl _)]
    rw [List.drop_set_of_lt (by omega)]
    simp only [Option.toList_some, List.append_assoc, List.singleton_append]
    rw [show off + k + 1 + vs.length = off + k + (vs.length + 1) by omega]
theorem fill_sound {place place' : Nat → Option (Nat × Nat)} : ∀ {ps : List (Nat × Value)} {qs : List (Nat × Nat × AV)} {cells : Array Value} {cs cs' : List AV},
    ps.length = qs.length → (∀ (j i : Nat) (v : Value) (o s : Nat) (x : AV), ps[j]? = some (i, v) → qs[j]? = some (o, s, x) → place i = some (o, s) ∧ VRel nb ι x v) →
    VRels nb ι cs cells.toList → fillAt cs qs = some cs' → ∃ out, Instr.fill place cells ps = some out ∧ VRels nb ι cs' out.toList
  | [], [], cells, cs, cs', _, _, hc, h => by
    simp [fillAt] at h; subst h
    exact ⟨cells, rfl, hc⟩
  | [], q :: qs, cells, cs, cs', hl, _, _, _ => by simp at hl
  | p :: ps, [], cells, cs, cs', hl, _, _, _ => by simp at hl
  | (i, v) :: ps, (o, s, x) :: qs, cells, cs, cs', hl, hq, hc, h => by
    obtain ⟨hp, hx⟩ := hq 0 i v o s x rfl rfl
    simp only [fillAt, Option.bind_eq_some_iff] at h
    obtain ⟨vs, hvs, h⟩ := h
    by_cases hsz : vs.length = s ∧ o + vs.length ≤ cs.length
    case neg => rw [if_neg hsz] at h; cases h
    rw [if_pos hsz] at h
    have hcells := hx.cells hvs
    have hlen : v.cells.size = vs.length := by simpa using hcells.length
    have hclen : cells.size = cs.length := by simpa using hc.length
    have hc' : VRels nb ι (putAt cs o vs) ((v.cells.toList.zipIdx 0).foldl (fun (cs : Array Value) (p : Value × Nat) => cs.setIfInBounds (o + p.2) p.1) cells).toList := by
      rw [fill_cells o v.cells.toList 0 cells (by simp; omega)]
      have := hc.putAt o hcells
      simpa using this
    obtain ⟨out, h1, h2⟩ := fill_sound (place := place) (place' := place') (ps := ps) (qs := qs) (by simpa using hl) (fun j i v o s x hj hk => hq (j + 1) i v o s x (by simpa using hj) (by simpa using hk)) hc' h
    refine ⟨out, ?_, h2⟩
    have he : (v.cells.zipIdx.foldl (fun (cs : Array Value) (p : Value × Nat) => cs.setIfInBounds (o + p.2) p.1) cells) = (v.cells.toList.zipIdx 0).foldl (fun (cs : Array Value) (p : Value × Nat) => cs.setIfInBounds (o + p.2) p.1) cells := by
      rw [← Array.foldl_toList, Array.toList_zipIdx]
    simp only [Instr.fill, hp]
    rw [if_neg (by simp; omega)]
    rw [← h1]
    exact congrArg (fun c => Instr.fill place c ps) he
theorem partsOf_sound (hg : P.globals.size ≤ nb) (hf : FRel nb ι fr a.tmps) {place : Nat → Option (Nat × Nat)} : ∀ {ps : List (Nat × Operand)} {qs : List (Nat × Nat × SX)}, partsOf P nt place ps = some qs →
    ps.length = qs.length ∧ ∀ (j i : Nat) (v : Value) (o s : Nat) (x : AV), (ps.map fun p => (p.1, a.eval p.2))[j]? = some (i, v) → (qs.map fun q => (q.1, q.2.1, q.2.2.ev fr))[j]? = some (o, s, x) → place i = some (o, s) ∧ VRel nb ι x v
  | [], qs, h => by simp [partsOf] at h; subst h; simp
  | (i, y) :: ps, qs, h => by
    simp only [partsOf, Option.bind_eq_some_iff, Option.map_eq_some_iff] at h
    obtain ⟨q, hq, z, hz, rs, hr, rfl⟩ := h
    obtain ⟨h1, h2⟩ := partsOf_sound hg hf hr
    refine ⟨by simp [h1], fun j i' v o s x hj hk => ?_⟩
    cases j with
    | zero =>
      simp at hj hk
      obtain ⟨rfl, rfl⟩ := hj
      obtain ⟨rfl, rfl, rfl⟩ := hk
      exact ⟨hq, slimX_sound hg hf hz⟩
    | succ j => exact h2 j i' v o s x (by simpa using hj) (by simpa using hk)
/-! ### Arithmetic -/
theorem toNat_inj_list : ∀ {x y : List UInt8}, x.map (·.toNat) = y.map (·.toNat) → x = y
  | [], [], _ => rfl
  | [], b :: y, h => by simp at h
  | a :: x, [], h => by simp at h
  | a :: x, b :: y, h => by
    simp only [List.map_cons, List.cons.injEq] at h
    rw [UInt8.toNat_inj.1 h.1, toNat_inj_list h.2]
theorem beq_bytes {s t : List Nat} {b c : ByteArray} (h : bytesRel s b) (h' : bytesRel t c) : (b.toList == c.toList) = (s == t) := by
  unfold bytesRel at h h'
  subst h; subst h'
  rw [Lib.toList_data, Lib.toList_data, Bool.eq_iff_iff]
  simp only [beq_iff_eq]
  exact ⟨fun e => by rw [e], toNat_inj_list⟩
theorem less_bytes : ∀ (x y : List UInt8), Op.bytesLess x y = less (x.map (·.toNat)) (y.map (·.toNat))
  | x, [] => by cases x <;> simp [Op.bytesLess, less]
  | [], b :: y => by simp [Op.bytesLess, less]
  | a :: x, b :: y => by
    simp only [Op.bytesLess, List.map_cons, less, less_bytes x y]
    have h1 : decide (a < b) = Nat.blt a.toNat b.toNat := by
      rw [Bool.eq_iff_iff]; simp [Nat.blt, UInt8.lt_iff_toNat_lt]; omega
    have h2 : (a == b) = (a.toNat == b.toNat) := by
      rw [Bool.eq_iff_iff]; simp [UInt8.toNat_inj]
    rw [h1, h2]
theorem intBin_sound {op : BinOp} {t : TypeId} {k : IntKind} {x y : Int} {z : AV} (h : intBin op k x y = some z) :
    ∃ v, (binOp op t (.int k x) (.int k y)).run P w = .ok v w ∧ VRel nb ι z v := by
  cases op <;> simp only [intBin, intBits, Option.some.injEq, reduceCtorEq, Option.map_eq_some_iff, Option.map_some, Option.map_none] at h
  case quo =>
    split at h <;> simp only [Option.some.injEq, reduceCtorEq] at h
    subst h
    exact ⟨_, by simp only [binOp, ne_eq, not_true_eq_false, if_false, Op.intDiv]; rw [if_neg ‹_›]; rfl, by simp only [VRel]⟩
  case rem =>
    split at h <;> simp only [Option.some.injEq, reduceCtorEq] at h
    subst h
    exact ⟨_, by simp only [binOp, ne_eq, not_true_eq_false, if_false, Op.intDiv]; rw [if_neg ‹_›]; rfl, by simp only [VRel]⟩
  all_goals (subst h; exact ⟨_, by simp only [binOp, ne_eq, not_true_eq_false, if_false, Op.intArith, Op.intCmp, Op.intBits]; rfl, by simp only [VRel]⟩)
theorem shiftBin_sound {op : BinOp} {k yk : IntKind} {x y : Int} {z : AV} (h : shiftBin op k x y = some z) :
    ∃ v, (Op.shift op k x yk y).run P w = .ok v w ∧ VRel nb ι z v := by
  unfold shiftBin at h
  split at h <;> simp only [reduceCtorEq] at h
  cases op <;> simp only [Option.some.injEq, reduceCtorEq] at h
  all_goals (subst h; exact ⟨_, by unfold Op.shift; rw [if_neg ‹_›]; rfl, by simp only [VRel]⟩)
theorem strBin_sound {op : BinOp} {s t : List Nat} {b c : ByteArray} {z : AV} (hs : bytesRel s b) (ht : bytesRel t c) (h : strBin op s t = some z) :
    ∃ v, (Op.stringOp op b c).run P w = .ok v w ∧ VRel nb ι z v := by
  have he := beq_bytes hs ht
  have hl : Op.bytesLess b.toList c.toList = less s t := by
    rw [less_bytes, Lib.toList_data, Lib.toList_data]; unfold bytesRel at hs ht; rw [hs, ht]
  cases op <;> simp only [strBin, Option.some.injEq, reduceCtorEq] at h
  case add =>
    split at h <;> simp only [Option.some.injEq, reduceCtorEq] at h
    rename_i hle
    subst h
    have h1 : b.size = s.length := by rw [Lib.size_eq, ← hs, List.length_map]
    have h2 : c.size = t.length := by rw [Lib.size_eq, ← ht, List.length_map]
    refine ⟨.string (b ++ c), ?_, ?_⟩
    · unfold Op.stringOp
      simp only []
      rw [if_neg]
      · rfl
      · rw [h1, h2]; simp [IntKind.max, IntKind.signed, IntKind.bits]; omega
    · simp only [VRel]
      refine ⟨_, rfl, ?_⟩
      unfold bytesRel at hs ht ⊢
      rw [← hs, ← ht]
      simp [ByteArray.data_append]
  all_goals (subst h; exact ⟨_, by simp only [Op.stringOp, he, hl]; rfl, by simp only [VRel]⟩)
end Go.Lite

/-
  Each operation that leaves the heap alone comes, in the model, to what the interpreter says: comparisons, slices, and all together.
-/
namespace Go.Lite
open Go
variable {P : Program} {nb : NB} {ι : Emb} {H : Heap} {w : World} {fr : Fr} {a : Act} {nt : Nat}
/-! ### Comparisons -/
theorem run_part1 {t : TypeId} {q : Nat} {xs : Array Value} {o : Nat} {v : Value} (ht : scalarT P t = some q) (hv : xs[o]? = some v) : (part t xs o).run P w = .ok v w := by
  unfold scalarT at ht
  split at ht
  · rename_i hu; simp [part, isAgg, run_underlying hu, hv]
  · rename_i hu; simp [part, isAgg, run_underlying hu, hv]
  · rename_i hu; simp [part, isAgg, run_underlying hu, hv]
  · cases ht
theorem eq1_sound {d : Nat} {t : TypeId} {q : Nat} {x y : AV} {u v : Value} {b : Bool} (ht : scalarT P t = some q) (hx : VRel nb ι x u) (hy : VRel nb ι y v) (h : eq1 q x y = some b) :
    (Op.equalIn (d + 1) t u v).run P w = .ok b w := by
  unfold scalarT at ht
  unfold eq1 at h
  split at h
  · split at ht <;> first | cases ht | skip
    rename_i hu
    simp only [VRel] at hx hy
    subst hx; subst hy
    simp only [Option.some.injEq] at h; subst h
    exact run_equalIn_bool' w d t _ _ hu
  · split at ht <;> first | cases ht | skip
    rename_i hu
    simp only [VRel] at hx hy
    subst hx; subst hy
    split at h <;> simp only [Option.some.injEq, reduceCtorEq] at h
    rename_i hk
    subst hk; subst h
    exact run_equalIn_int w d t _ _ _ _ hu
  · split at ht <;> first | cases ht | skip
    rename_i hu
    simp only [VRel] at hx hy
    obtain ⟨b1, rfl, h1⟩ := hx
    obtain ⟨b2, rfl, h2⟩ := hy
    simp only [Option.some.injEq] at h; subst h
    rw [run_equalIn_string w d t _ _ hu, beq_bytes h1 h2]
  · cases h
theorem eqFields_sound {d : Nat} {xs ys : List AV} {us vs : Array Value} (hx : VRels nb ι xs us.toList) (hy : VRels nb ι ys vs.toList) :
    ∀ {fs : List Field} {qs : List (Nat × Nat)} {b : Bool}, eqFieldsT P fs = some qs → eqMany qs xs ys = some b → (Op.eqFields (d + 1) us vs fs).run P w = .ok b w
  | [], qs, b, hf, h => by
    simp only [eqFieldsT, Option.some.injEq] at hf
    subst hf
    simp only [eqMany, Option.some.injEq] at h
    subst h
    rfl
  | f :: fs, qs, b, hf, h => by
    simp only [eqFieldsT] at hf
    split at hf
    case isFalse => cases hf
    rename_i hn
    simp only [Option.bind_eq_some_iff, Option.map_eq_some_iff] at hf
    obtain ⟨q, hq, rs, hr, rfl⟩ := hf
    simp only [eqMany, Option.bind_eq_some_iff, Option.map_eq_some_iff] at h
    obtain ⟨x, hxo, y, hyo, b1, h1, b2, h2, rfl⟩ := h
    obtain ⟨u, hu, hxu⟩ := hx.get _ _ hxo
    obtain ⟨v, hv, hyv⟩ := hy.get _ _ hyo
    have e1 := eq1_sound (P := P) (w := w) (d := d) hq hxu hyv h1
    have e2 := eqFields_sound (d := d) hx hy hr h2
    simp only [Op.eqFields, hn, ne_eq, not_false_eq_true, if_true, Sem.run_bind, run_part1 hq (by simpa using hu), run_part1 hq (by simpa using hv), Result.andThen_ok, e1, Sem.run_ite]
    cases b1
    · simp
    · simp [e2]
theorem one_deep {t : TypeId} {u v : Value} {b : Bool} (h : ∀ d, (Op.equalIn (d + 1) t u v).run P w = .ok b w) : (Op.equal t u v).run P w = .ok b w := h 9999
def EqT.says (P : Program) (t : TypeId) : EqT → Prop
  | .none => True
  | .bool => P.underlying t = some .bool
  | .ptr => ∃ e, P.underlying t = some (.pointer e)
  | .slc => ∃ e, P.underlying t = some (.slice e)
  | .fn => ∃ x y z, P.underlying t = some (.func x y z)
  | .many qs => (∃ fs, P.underlying t = some (.struct fs) ∧ P.stoodInHeld t = false ∧ P.eqGuardType P.depth t = false ∧ eqFieldsT P fs.toList = some qs) ∨
    (∃ e q i, P.underlying t = some (.array 1 e) ∧ sizeT P e = some i ∧ scalarT P e = some q ∧ P.eqGuardType P.depth t = false ∧ qs = [(0, q)])
theorem eqT_says {t : TypeId} {e : EqT} (h : eqT P t = some e) : e.says P t := by
  unfold eqT at h
  split at h
  all_goals first
    | (cases h; done)
    | (rename_i hu
       simp only [Option.some.injEq] at h
       subst h
       first
         | exact hu
         | exact ⟨_, hu⟩
         | exact ⟨_, _, _, hu⟩
         | trivial)
    | skip
  · rename_i fs hu
    cases hc : (!P.stoodInHeld t && !P.eqGuardType P.depth t) with
    | false => rw [hc] at h; cases h
    | true =>
      rw [hc] at h
      simp only [cond_true, Option.map_eq_some_iff] at h
      obtain ⟨qs, hq, rfl⟩ := h
      simp only [Bool.and_eq_true, Bool.not_eq_true'] at hc
      exact .inl ⟨fs, hu, hc.1, hc.2, hq⟩
  · rename_i el hu
    cases hc : (!P.eqGuardType P.depth t && (sizeT P el).isSome) with
    | false => rw [hc] at h; cases h
    | true =>
      rw [hc] at h
      simp only [cond_true, Option.map_eq_some_iff] at h
      obtain ⟨q, hq, rfl⟩ := h
      simp only [Bool.and_eq_true, Bool.not_eq_true'] at hc
      obtain ⟨i, hi⟩ := Option.isSome_iff_exists.1 hc.2
      exact .inr ⟨el, q, i, hu, hi, hq, hc.1, rfl⟩
def Plainly (P : Program) (t : TypeId) (u v : Value) : Prop :=
  (∀ xs ys, u = .agg xs → v = .agg ys → P.eqGuardType P.depth t = false) ∧ ¬ (u = .nilIface ∧ v = .nilIface) ∧ (∀ k n, u ≠ .int k n) ∧ (∀ s, u ≠ .string s) ∧ (∀ k n, u ≠ .float k n) ∧ (∀ k n m, u ≠ .complex k n m)
theorem eqv_sound {t : TypeId} {e : EqT} {x y : AV} {u v : Value} {b : Bool} (ht : eqT P t = some e) (hx : VRel nb ι x u) (hy : VRel nb ι y v) (h : eqv e x y = some b) :
    (Op.equal t u v).run P w = .ok b w ∧ Plainly P t u v := by
  have hs := eqT_says ht
  clear ht
  unfold eqv at h
  split at h
  case h_1 qs xs ys =>
    simp only [VRel] at hx hy
    obtain ⟨us, rfl, hus⟩ := hx
    obtain ⟨vs, rfl, hvs⟩ := hy
    rcases hs with ⟨fs, hu, h1, h2, hq⟩ | ⟨el, q, inf, hu, hi, hq, h2, rfl⟩
    case inr =>
      refine ⟨?_, fun _ _ _ _ => h2, by simp, by simp, by simp, by simp, by simp⟩
      refine (show ∀ d, (Op.equalIn (d + 1 + 1) t (.agg us) (.agg vs)).run P w = .ok b w from fun d => ?_) 9998
      simp only [eqMany, Option.bind_eq_some_iff, Option.map_eq_some_iff] at h
      obtain ⟨x, hxo, y, hyo, b1, h3, b2, h4, rfl⟩ := h
      simp only [Option.some.injEq] at h4
      subst h4
      obtain ⟨u, hu1, hxu⟩ := hus.get _ _ hxo
      obtain ⟨v, hv1, hyv⟩ := hvs.get _ _ hyo
      have e1 := eq1_sound (P := P) (w := w) (d := d) hq hxu hyv h3
      have p1 := run_part1 (P := P) (w := w) hq (xs := us) (o := 0) (v := u) (by simpa using hu1)
      have p2 := run_part1 (P := P) (w := w) hq (xs := vs) (o := 0) (v := v) (by simpa using hv1)
      have hr : (List.range' 0 1 1) = [0] := rfl
      rw [Op.equalIn]
      simp only [run_underlying hu, Sem.run_bind, run_sizeOf hi, Result.andThen_ok]
      cases b1 <;> simp [Std.Legacy.Range.forIn_eq_forIn_range', Std.Legacy.Range.size, hr, p1, p2, e1]
    have hfo : P.fieldsOf t = fs := by simp only [Program.fieldsOf, hu]
    refine ⟨?_, fun _ _ _ _ => h2, by simp, by simp, by simp, by simp, by simp⟩
    show (Op.equalIn (9999 + 1) t _ _).run P w = _
    rw [run_equalIn_struct w 9999 t us vs (by rw [hfo]; exact hu) h1, hfo]
    exact eqFields_sound (d := 9998) hus hvs hq h
  case h_2 =>
    simp only [EqT.says] at hs
    simp only [VRel] at hx hy
    subst hx; subst hy
    simp only [Option.some.injEq] at h; subst h
    exact ⟨one_deep fun d => by simp [Op.equalIn, run_underlying hs], by simp, by simp, by simp, by simp, by simp, by simp⟩
  case h_3 =>
    obtain ⟨_, hu⟩ := hs
    simp only [VRel] at hx hy
    subst hx
    subst hy
    simp only [Option.some.injEq] at h; subst h
    exact ⟨one_deep fun d => by simp [Op.equalIn, run_underlying hu], by simp, by simp, by simp, by simp, by simp, by simp⟩
  case h_4 =>
    obtain ⟨_, hu⟩ := hs
    simp only [VRel] at hx hy
    subst hx
    obtain ⟨l, e1, rfl⟩ := hy
    simp only [Option.some.injEq] at h; subst h
    exact ⟨one_deep fun d => by simp [Op.equalIn, run_underlying hu], by simp, by simp, by simp, by simp, by simp, by simp⟩
  case h_5 =>
    obtain ⟨_, hu⟩ := hs
    simp only [VRel] at hx hy
    obtain ⟨l, e1, rfl⟩ := hx
    subst hy
    simp only [Option.some.injEq] at h; subst h
    exact ⟨one_deep fun d => by simp [Op.equalIn, run_underlying hu], by simp, by simp, by simp, by simp, by simp, by simp⟩
  case h_6 =>
    obtain ⟨_, hu⟩ := hs
    simp only [VRel] at hx hy
    subst hx
    subst hy
    simp only [Option.some.injEq] at h; subst h
    exact ⟨one_deep fun d => by simp [Op.equalIn, run_underlying hu], by simp, by simp, by simp, by simp, by simp, by simp⟩
  case h_7 =>
    obtain ⟨_, hu⟩ := hs
    simp only [VRel] at hx hy
    subst hx
    obtain ⟨l, c, e1, rfl, e2, e3⟩ := hy
    simp only [Option.some.injEq] at h; subst h
    exact ⟨one_deep fun d => by simp [Op.equalIn, run_underlying hu], by simp, by simp, by simp, by simp, by simp, by simp⟩
  case h_8 =>
    obtain ⟨_, hu⟩ := hs
    simp only [VRel] at hx hy
    obtain ⟨l, c, e1, rfl, e2, e3⟩ := hx
    subst hy
    simp only [Option.some.injEq] at h; subst h
    exact ⟨one_deep fun d => by simp [Op.equalIn, run_underlying hu], by simp, by simp, by simp, by simp, by simp, by simp⟩
  case h_9 =>
    obtain ⟨_, hu⟩ := hs
    simp only [VRel] at hx hy
    subst hx
    obtain ⟨l, c, rfl⟩ := hy
    simp only [Option.some.injEq] at h; subst h
    exact ⟨one_deep fun d => by simp [Op.equalIn, run_underlying hu], by simp, by simp, by simp, by simp, by simp, by simp⟩
  case h_10 =>
    obtain ⟨_, hu⟩ := hs
    simp only [VRel] at hx hy
    obtain ⟨l, c, rfl⟩ := hx
    subst hy
    simp only [Option.some.injEq] at h; subst h
    exact ⟨one_deep fun d => by simp [Op.equalIn, run_underlying hu], by simp, by simp, by simp, by simp, by simp, by simp⟩
  case h_11 =>
    obtain ⟨_, hu⟩ := hs
    simp only [VRel] at hx hy
    subst hx
    obtain ⟨_, a0, cap, rfl, g1, _, g3, _⟩ := hy
    obtain ⟨q, rfl⟩ : ∃ q, a0 = some q := by
      cases a0 with
      | none => have := g3 rfl; omega
      | some q => exact ⟨q, rfl⟩
    simp only [Option.some.injEq] at h; subst h
    exact ⟨one_deep fun d => by simp [Op.equalIn, run_underlying hu], by simp, by simp, by simp, by simp, by simp, by simp⟩
  case h_12 =>
    obtain ⟨_, hu⟩ := hs
    simp only [VRel] at hx hy
    subst hy
    obtain ⟨_, a0, cap, rfl, g1, _, g3, _⟩ := hx
    obtain ⟨q, rfl⟩ : ∃ q, a0 = some q := by
      cases a0 with
      | none => have := g3 rfl; omega
      | some q => exact ⟨q, rfl⟩
    simp only [Option.some.injEq] at h; subst h
    exact ⟨one_deep fun d => by simp [Op.equalIn, run_underlying hu], by simp, by simp, by simp, by simp, by simp, by simp⟩
  case h_13 =>
    obtain ⟨_, _, _, hu⟩ := hs
    simp only [VRel] at hx hy
    subst hx
    subst hy
    simp only [Option.some.injEq] at h; subst h
    exact ⟨one_deep fun d => by simp [Op.equalIn, run_underlying hu], by simp, by simp, by simp, by simp, by simp, by simp⟩
  case h_14 =>
    obtain ⟨_, _, _, hu⟩ := hs
    simp only [VRel] at hx hy
    subst hx
    obtain ⟨l, rfl, e1⟩ := hy
    simp only [Option.some.injEq] at h; subst h
    exact ⟨one_deep fun d => by simp [Op.equalIn, run_underlying hu], by simp, by simp, by simp, by simp, by simp, by simp⟩
  case h_15 =>
    obtain ⟨_, _, _, hu⟩ := hs
    simp only [VRel] at hx hy
    obtain ⟨l, rfl, e1⟩ := hx
    subst hy
    simp only [Option.some.injEq] at h; subst h
    exact ⟨one_deep fun d => by simp [Op.equalIn, run_underlying hu], by simp, by simp, by simp, by simp, by simp, by simp⟩
  all_goals cases h
end Go.Lite

/-
  Each operation that leaves the heap alone comes, in the model, to what the interpreter says.
-/
namespace Go.Lite
open Go
variable {P : Program} {nb : NB} {ι : Emb} {H : Heap} {w : World} {fr : Fr} {a : Act} {nt : Nat}
theorem eqGuard_plain {op : BinOp} {t : TypeId} {x y : Operand} {u v : Value} (h : (∀ xs ys, u = .agg xs → v = .agg ys → P.eqGuardType P.depth t = false) ∧ ¬ (u = .nilIface ∧ v = .nilIface)) :
    (eqGuard op t x y u v).run P w = .ok () w := by
  obtain ⟨h1, h2⟩ := h
  unfold eqGuard
  cases op <;> simp only [Bool.not_true, Bool.not_false, if_true, Bool.false_eq_true, if_false, Sem.run_pure, Sem.run_ite, Sem.run_bind, Result.andThen_ok]
  all_goals
    split
    · exact absurd ⟨rfl, rfl⟩ h2
    · rename_i xs ys
      simp [h1 xs ys rfl rfl]
    · rfl
theorem bin_sound {op : BinOp} {t : TypeId} {e : EqT} {x y z : AV} {u v : Value} {ox oy : Operand} (ht : op = .eql ∨ op = .neq → eqT P t = some e) (hx : VRel nb ι x u) (hy : VRel nb ι y v) (h : bin op e x y = some z) :
    ∃ r, (do eqGuard op t ox oy u v; binOp op t u v : Sem Value).run P w = .ok r w ∧ VRel nb ι z r := by
  unfold bin at h
  split at h
  · rename_i k a k' b
    simp only [VRel] at hx hy
    subst hx; subst hy
    have hg : ∀ (oq : BinOp), (eqGuard oq t ox oy (.int k a) (.int k' b)).run P w = .ok () w := fun oq => eqGuard_plain ⟨by simp, by simp⟩
    split at h
    · obtain ⟨r, h1, h2⟩ := shiftBin_sound (P := P) (w := w) (nb := nb) (ι := ι) (yk := k') h
      exact ⟨r, by rw [Sem.run_bind, hg]; exact h1, h2⟩
    · obtain ⟨r, h1, h2⟩ := shiftBin_sound (P := P) (w := w) (nb := nb) (ι := ι) (yk := k') h
      exact ⟨r, by rw [Sem.run_bind, hg]; exact h1, h2⟩
    · split at h
      case isFalse => cases h
      rename_i hk
      subst hk
      obtain ⟨r, h1, h2⟩ := intBin_sound (P := P) (w := w) (nb := nb) (ι := ι) (t := t) h
      exact ⟨r, by rw [Sem.run_bind, hg]; exact h1, h2⟩
  · rename_i a b
    simp only [VRel] at hx hy
    obtain ⟨b1, rfl, h1⟩ := hx
    obtain ⟨b2, rfl, h2⟩ := hy
    obtain ⟨r, h3, h4⟩ := strBin_sound (P := P) (w := w) (nb := nb) (ι := ι) h1 h2 h
    refine ⟨r, ?_, h4⟩
    rw [Sem.run_bind, eqGuard_plain ⟨by simp, by simp⟩]
    simp only [Result.andThen_ok]
    rw [← h3]
    cases op <;> rfl
  · split at h
    · simp only [Option.map_eq_some_iff] at h
      obtain ⟨b, hb, rfl⟩ := h
      obtain ⟨h1, h2, h3, h4, h5, h6, h7⟩ := eqv_sound (P := P) (w := w) (ht (.inl rfl)) hx hy hb
      refine ⟨.bool b, ?_, by simp only [VRel]⟩
      rw [Sem.run_bind, eqGuard_plain ⟨h2, h3⟩]
      simp only [Result.andThen_ok]
      unfold binOp
      split
      all_goals first
        | exact absurd rfl (h4 _ _)
        | exact absurd rfl (h5 _)
        | exact absurd rfl (h6 _ _)
        | exact absurd rfl (h7 _ _ _)
        | simp_all
        | skip
    · simp only [Option.map_eq_some_iff] at h
      obtain ⟨b, hb, rfl⟩ := h
      obtain ⟨h1, h2, h3, h4, h5, h6, h7⟩ := eqv_sound (P := P) (w := w) (ht (.inr rfl)) hx hy hb
      refine ⟨.bool (!b), ?_, by simp only [VRel]⟩
      rw [Sem.run_bind, eqGuard_plain ⟨h2, h3⟩]
      simp only [Result.andThen_ok]
      unfold binOp
      split
      all_goals first
        | exact absurd rfl (h4 _ _)
        | exact absurd rfl (h5 _)
        | exact absurd rfl (h6 _ _)
        | exact absurd rfl (h7 _ _ _)
        | simp_all
        | skip
    · cases h
/-! ### Slices -/
theorem run_sliceBound {v : Value} {k : IntKind} {n y : Nat} {c : BoundsCode} (hv : v = .int k (n : Int)) (h : n ≤ y) : (Instr.sliceBound v y c).run P w = .ok n w := by
  subst hv
  unfold Instr.sliceBound
  have : (0 : Int) ≤ (n : Int) ∧ (n : Int) ≤ (y : Int) := ⟨by omega, by omega⟩
  simp [asIntOf, this]
def BRel : Option Nat → Option Value → Prop
  | none, v => v = none
  | some n, v => ∃ k, v = some (.int k (n : Int))
theorem run_bounds {len cap : Nat} {l h m : Option Nat} {lo hi mx : Option Value} (hl : BRel l lo) (hh : BRel h hi) (hm : BRel m mx) (hmh : m ≠ none → h ≠ none) (isS : Bool)
    (h1 : l.getD 0 ≤ h.getD len) (h2 : h.getD len ≤ m.getD cap) (h3 : m.getD cap ≤ cap) : (Instr.sliceBounds isS len cap lo hi mx).run P w = .ok (l.getD 0, h.getD len, m.getD cap) w := by
  unfold Instr.sliceBounds
  cases m with
  | none =>
    simp only [BRel] at hm
    subst hm
    cases h with
    | none =>
      simp only [BRel] at hh
      subst hh
      cases l with
      | none => simp only [BRel] at hl; subst hl; simp
      | some l =>
        obtain ⟨k, rfl⟩ := hl
        simp only [Option.getD_some, Option.getD_none] at h1
        simp [run_sliceBound (P := P) (w := w) (k := k) rfl h1]
    | some h =>
      obtain ⟨k, rfl⟩ := hh
      simp only [Option.getD_some, Option.getD_none] at h1 h2
      cases l with
      | none => simp only [BRel] at hl; subst hl; simp [run_sliceBound (P := P) (w := w) (k := k) rfl h2]
      | some l =>
        obtain ⟨k', rfl⟩ := hl
        simp only [Option.getD_some] at h1
        simp [run_sliceBound (P := P) (w := w) (k := k) rfl h2, run_sliceBound (P := P) (w := w) (k := k') rfl h1]
  | some m =>
    obtain ⟨km, rfl⟩ := hm
    cases h with
    | none => exact absurd rfl (hmh (by simp))
    | some h =>
      obtain ⟨k, rfl⟩ := hh
      simp only [Option.getD_some] at h1 h2 h3
      cases l with
      | none => simp only [BRel] at hl; subst hl; simp [run_sliceBound (P := P) (w := w) (k := km) rfl h3, run_sliceBound (P := P) (w := w) (k := k) rfl h2]
      | some l =>
        obtain ⟨k', rfl⟩ := hl
        simp only [Option.getD_some] at h1
        simp [run_sliceBound (P := P) (w := w) (k := km) rfl h3, run_sliceBound (P := P) (w := w) (k := k) rfl h2, run_sliceBound (P := P) (w := w) (k := k') rfl h1]
theorem sliceOf_sound {t e : TypeId} {size : Nat} {x z : AV} {u : Value} {l h m : Option Nat} {lo hi mx : Option Value} (ht : P.underlying t = some (.slice e)) (hs : sizeT P e = some size)
    (hx : VRel nb ι x u) (hl : BRel l lo) (hh : BRel h hi) (hm : BRel m mx) (hmh : m ≠ none → h ≠ none) (hz : sliceOf size x l h m = some z) :
    ∃ r, (Instr.sliceAt t u lo hi mx).run P w = .ok r w ∧ VRel nb ι z r := by
  have key : ∀ (a : Option Addr) (len cap : Nat), l.getD 0 ≤ h.getD len → h.getD len ≤ m.getD cap → m.getD cap ≤ cap →
      (Instr.sliceAt t (.slice a len cap) lo hi mx).run P w = .ok (.slice (if m.getD cap = l.getD 0 then a else a.map (·.add (l.getD 0 * size))) (h.getD len - l.getD 0) (m.getD cap - l.getD 0)) w := by
    intro a len cap h1 h2 h3
    have hb := run_bounds (P := P) (w := w) hl hh hm hmh true h1 h2 h3
    simp [Instr.sliceAt, Instr.slice, run_underlying ht, hb, run_sizeOf hs]
  unfold sliceOf at hz
  split at hz
  · split at hz <;> simp only [Option.some.injEq, reduceCtorEq] at hz
    subst hz
    rename_i e1 e2 e3
    simp only [VRel] at hx
    subst hx
    refine ⟨_, key none 0 0 (by omega) (by omega) (by omega), ?_⟩
    simp only [VRel, e1, e2, e3]
    simp
  · split at hz <;> simp only [Option.some.injEq, reduceCtorEq] at hz
    subst hz
    rename_i e1 e2 e3
    simp only [VRel] at hx
    obtain ⟨a, cap, rfl⟩ := hx
    have e4 : m.getD cap ≤ cap := by
      cases m with
      | none => simp
      | some m => simp at e3 ⊢; omega
    refine ⟨_, key (some a) 0 cap (by omega) (by omega) e4, ?_⟩
    simp only [VRel, e1, e2]
    split
    · exact ⟨a, _, rfl⟩
    · exact ⟨_, _, rfl⟩
  · rename_i p o n c
    simp only [VRel] at hx
    obtain ⟨q, cap, hq, rfl, hn, hc⟩ := hx
    simp only [] at hz
    split at hz
    case isFalse => cases hz
    rename_i hb
    obtain ⟨b1, b2, b3⟩ := hb
    have hcn : capOf c n ≤ cap := by
      cases c with
      | fix c e0 => simp only [capRel] at hc; simp only [capOf]; omega
      | gro es => simp only [capOf]; exact hn
    split at hz
    · rename_i es
      simp only [capOf, Option.getD_none] at b2 b3 hcn
      simp only [capRel] at hc
      have hk := key (some ⟨q.blk, q.off + o, none⟩) n cap b1 (by simp; omega) (by simp)
      simp only [Option.getD_none] at hk
      refine ⟨_, hk, ?_⟩
      split at hz
      · rename_i hlh
        simp only [Option.some.injEq] at hz
        subst hz
        simp only [VRel]
        have hmul : cap * size = l.getD 0 * size + (cap - l.getD 0) * size := by rw [← Nat.add_mul]; congr 1; omega
        refine ⟨q, cap - l.getD 0, hq, ?_, by omega, ?_⟩
        · congr 1
          split
          · have : l.getD 0 = 0 := by omega
            simp [this]
          · simp [Addr.add_mid, Nat.add_assoc]
        · simp only [capRel]
          split
          · rename_i he
            subst he
            rcases hc with hc | hc
            · exact .inl hc
            · right; omega
          · exact .inl rfl
      · rename_i hlh
        simp only [Option.some.injEq] at hz
        subst hz
        simp only [VRel]
        have h0 : h.getD n - l.getD 0 = 0 := by omega
        rw [h0]
        split
        · exact ⟨_, _, rfl⟩
        · exact ⟨_, _, rfl⟩
    · simp only [Option.some.injEq] at hz
      subst hz
      have hmc : m.getD (capOf c n) = m.getD cap := by
        cases m with
        | some m => rfl
        | none =>
          cases c with
          | fix c e0 => simp only [capRel] at hc; simp [capOf, hc]
          | gro es => rename_i hno; exact (hno es rfl rfl).elim
      rw [hmc] at b2 b3 ⊢
      have hk := key (some ⟨q.blk, q.off + o, none⟩) n cap b1 b2 (by omega)
      refine ⟨_, hk, ?_⟩
      simp only [VRel]
      refine ⟨q, m.getD cap - l.getD 0, hq, ?_, by omega, by simp only [capRel]⟩
      congr 1
      split
      · rfl
      · simp [Addr.add_mid, Nat.add_assoc]
  · -- content
    rename_i es n f cs
    simp only [] at hz
    split at hz
    case isFalse => cases hz
    rename_i hb
    obtain ⟨b1, b2, b3, b4⟩ := hb
    simp only [Option.some.injEq] at hz
    subst hz
    simp only [VRel] at hx
    obtain ⟨h0, a0, cap, rfl, g1, g2, g3, g4⟩ := hx
    have hmn : ∀ m0, m = some m0 → m.getD cap = m0 ∧ m.getD n = m0 := fun m0 e => by subst e; exact ⟨rfl, rfl⟩
    have hm1 : h.getD n ≤ m.getD cap ∧ m.getD cap ≤ cap := by
      cases m with
      | none => simp only [Option.getD_none] at b2 b3 ⊢; omega
      | some m0 => simp only [Option.getD_some] at b2 b3 ⊢; omega
    refine ⟨_, key a0 n cap b1 hm1.1 hm1.2, ?_⟩
    have hle : h.getD n ≤ n := by omega
    simp only [VRel]
    have hmul : (h.getD n - l.getD 0) * es ≤ n * es - l.getD 0 * es := by rw [← Nat.sub_mul]; exact Nat.mul_le_mul_right _ (by omega)
    refine ⟨by rw [List.length_take, List.length_drop, h0]; omega, _, _, rfl, by omega, ?_, ?_, fun hn => ?_⟩
    · intro hf
      cases f with
      | true =>
        simp only [cond_true] at hf
        have hf' := Nat.eq_of_beq_eq_true hf
        have := g2 rfl
        subst this
        rw [hf']
      | false =>
        simp only [cond_false] at hf
        cases m with
        | none => cases hf
        | some m0 =>
          have hf' := Nat.eq_of_beq_eq_true hf
          simp only [Option.getD_some]
          rw [hf']
    · intro ha
      have : a0 = none := by
        split at ha
        · exact ha
        · cases a0 with
          | none => rfl
          | some q => simp at ha
      have := g3 this
      omega
    · have hn0 : n ≠ 0 := by omega
      have hes : es = size := b4.resolve_right hn0
      subst hes
      obtain ⟨b, o, vs, rfl, k1, c0, k2, k3⟩ := g4 hn0
      refine ⟨b, o + l.getD 0 * es, (vs.drop (l.getD 0 * es)).take ((h.getD n - l.getD 0) * es), ?_, (k1.drop _).take _, c0, k2, fun i v hv => ?_⟩
      · rw [if_neg (by omega)]
        simp [Addr.add_mid]
      · have hi : i < (h.getD n - l.getD 0) * es := by
          have := (List.getElem?_eq_some_iff.1 hv).1
          rw [List.length_take] at this
          omega
        rw [List.getElem?_take_of_lt hi, List.getElem?_drop] at hv
        rw [Nat.add_assoc]
        exact k3 _ v hv
  · cases hz
/-! ### All together -/
theorem optNat_sound (hg : P.globals.size ≤ nb) (hf : FRel nb ι fr a.tmps) {x : Option Operand} {y : Option SX} {n : Option Nat} (h : slimXo P nt x = some y) (hn : optNat fr y = some n) : BRel n (x.map a.eval) := by
  cases x with
  | none => simp only [slimXo, Option.some.injEq] at h; subst h; simp only [optNat, Option.some.injEq] at hn; subst hn; rfl
  | some x =>
    simp only [slimXo, Option.map_eq_some_iff] at h
    obtain ⟨z, hz, rfl⟩ := h
    simp only [optNat, Option.map_eq_some_iff] at hn
    obtain ⟨k, hk, rfl⟩ := hn
    obtain ⟨q, hq⟩ := (slimX_sound hg hf hz).asNat hk
    exact ⟨q, by simp [hq]⟩
theorem slimXo_none {x : Option Operand} {y : Option SX} (h : slimXo P nt x = some y) : (x = none ↔ y = none) := by
  cases x with
  | none => simp only [slimXo, Option.some.injEq] at h; subst h; simp
  | some x =>
    simp only [slimXo, Option.map_eq_some_iff] at h
    obtain ⟨z, hz, rfl⟩ := h
    simp
theorem optNat_none {y : Option SX} {n : Option Nat} (h : optNat fr y = some n) : (y = none ↔ n = none) := by
  cases y with
  | none => simp only [optNat, Option.some.injEq] at h; subst h; simp
  | some x =>
    simp only [optNat, Option.map_eq_some_iff] at h
    obtain ⟨z, hz, rfl⟩ := h
    simp
theorem bytesOf_sound : ∀ {cs : List AV} {s : List Nat} {vs : List Value}, bytesOf cs = some s → VRels nb ι cs vs → ∃ l : List UInt8, vs = l.map (fun b => Value.int .u8 (b.toNat : Int)) ∧ l.map (·.toNat) = s
  | [], s, vs, h, hv => by
    simp only [bytesOf, Option.some.injEq] at h; subst h
    simp only [VRels] at hv; subst hv
    exact ⟨[], rfl, rfl⟩
  | x :: cs, s, vs, h, hv => by
    unfold bytesOf at h
    split at h
    · rename_i e; cases e
    · rename_i n vs' e
      simp only [List.cons.injEq] at e
      obtain ⟨rfl, rfl⟩ := e
      split at h
      case isFalse => cases h
      rename_i hn
      simp only [Option.map_eq_some_iff] at h
      obtain ⟨s', hs', rfl⟩ := h
      simp only [VRels] at hv
      obtain ⟨y, ys, rfl, hy, hys⟩ := hv
      simp only [VRel] at hy
      subst hy
      obtain ⟨l, rfl, hl⟩ := bytesOf_sound hs' hys
      have hm : (UInt8.ofNat n).toNat = n := by simp [Nat.mod_eq_of_lt hn]
      exact ⟨UInt8.ofNat n :: l, by simp only [List.map_cons, hm]; rfl, by simp only [List.map_cons, hm, hl]⟩
    · cases h
theorem bytesStr_sound (r : Rel nb ι H w) {src dst e : TypeId} {x z : AV} {u : Value} (hs : P.underlying src = some (.slice e)) (he : P.underlying e = some (.int .u8)) (hd : P.underlying dst = some .string)
    (hx : VRel nb ι x u) (h : strOfBytes H x = some z) : ∃ v, (convert src dst u).run P w = .ok v w ∧ VRel nb ι z v := by
  unfold strOfBytes at h
  cases x <;> simp only [Option.some.injEq, reduceCtorEq] at h
  case nils =>
    subst h
    simp only [VRel] at hx; subst hx
    exact ⟨.string .empty, by rw [run_convert_bytes_string w src dst e none 0 0 hs he hd]; rfl, by simp only [VRel]; exact ⟨_, rfl, rfl⟩⟩
  case emp =>
    subst h
    simp only [VRel] at hx
    obtain ⟨a, cap, rfl⟩ := hx
    refine ⟨.string .empty, ?_, by simp only [VRel]; exact ⟨_, rfl, rfl⟩⟩
    rw [run_convert_bytes_string w src dst e (some a) 0 cap hs he hd, run_bytesToString w a 0 cap [] (by simp [loadCells, loadCellsFrom])]
    rfl
  case slice p o n c =>
    simp only [Option.bind_eq_some_iff, Option.map_eq_some_iff] at h
    obtain ⟨cs, hc, s, hs', rfl⟩ := h
    simp only [VRel] at hx
    obtain ⟨l, cap, hl, rfl, hn, _⟩ := hx
    obtain ⟨_, vs, hvl, hrange, hvs⟩ := ldn_sound r hl hc
    obtain ⟨bs, rfl, hbs⟩ := bytesOf_sound hs' hvs
    have hld : (loadCells ⟨l.blk, l.off + o, none⟩ n).run P w = .ok ((bs.map fun b => (b.toNat : Int)).map (Value.int .u8)).toArray w := by
      have := run_loadCells_list (P := P) w ⟨l.blk, l.off + o, none⟩ (bs.map fun b => Value.int .u8 (b.toNat : Int)) (fun j v hv => by rw [Addr.add_mid]; exact hrange j v hv)
      rw [hvl] at this
      rw [this, List.map_map]
      rfl
    refine ⟨_, by rw [run_convert_bytes_string w src dst e _ n cap hs he hd, run_bytesToString w _ n cap _ hld], ?_⟩
    simp only [VRel]
    refine ⟨_, rfl, ?_⟩
    rw [foldl_push_byteCells]
    unfold bytesRel
    simp [hbs]
  case lst es n f cs =>
    split at h
    case isFalse => cases h
    rename_i hes
    simp only [Option.map_eq_some_iff] at h
    obtain ⟨s, hs', rfl⟩ := h
    simp only [VRel] at hx
    obtain ⟨h0, a0, cap, rfl, g1, g2, g3, g4⟩ := hx
    by_cases hn : n = 0
    · subst hn
      simp only [Nat.zero_mul] at h0
      obtain rfl := List.eq_nil_of_length_eq_zero h0
      simp only [bytesOf, Option.some.injEq] at hs'
      subst hs'
      cases a0 with
      | none =>
        obtain rfl := g3 rfl
        exact ⟨.string .empty, by rw [run_convert_bytes_string w src dst e none 0 0 hs he hd]; rfl, by simp only [VRel]; exact ⟨_, rfl, rfl⟩⟩
      | some a =>
        refine ⟨.string .empty, ?_, by simp only [VRel]; exact ⟨_, rfl, rfl⟩⟩
        rw [run_convert_bytes_string w src dst e (some a) 0 cap hs he hd, run_bytesToString w a 0 cap [] (by simp [loadCells, loadCellsFrom])]
        rfl
    · obtain rfl := hes.resolve_right hn
      obtain ⟨b, o, vs, rfl, k1, c0, k2, k3⟩ := g4 hn
      obtain ⟨bs, rfl, hbs⟩ := bytesOf_sound hs' k1
      have hvl : bs.length = n := by
        have := k1.length
        simp at this
        omega
      have hld : (loadCells ⟨b, o, none⟩ n).run P w = .ok ((bs.map fun b => (b.toNat : Int)).map (Value.int .u8)).toArray w := by
        have := run_loadCells_list (P := P) w ⟨b, o, none⟩ (bs.map fun b => Value.int .u8 (b.toNat : Int)) (fun j v hv => by rw [Addr.add_mid]; exact r.held ⟨c0, k2, k3⟩ j v hv)
        rw [List.length_map, hvl] at this
        rw [this, List.map_map]
        rfl
      refine ⟨_, by rw [run_convert_bytes_string w src dst e _ n cap hs he hd, run_bytesToString w _ n cap _ hld], ?_⟩
      simp only [VRel]
      refine ⟨_, rfl, ?_⟩
      rw [foldl_push_byteCells]
      unfold bytesRel
      simp [hbs]
end Go.Lite
