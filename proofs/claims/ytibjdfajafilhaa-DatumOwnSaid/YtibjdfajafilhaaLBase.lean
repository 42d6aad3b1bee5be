/-
  An interpreter over a slimmed form of the program's code: values, heap, operations. Plain definitions and the small laws of tries; nothing of a program stands here.
-/
import GoSem.Core.View
import GoSem.Core.Code
namespace Go.Lite
open Go
set_option linter.unusedSimpArgs false
set_option linter.unusedVariables false

/-! ### Tries over numbers -/

inductive T (α : Type) where
  | nil
  | node (v : Option α) (l r : T α)

namespace T
variable {α : Type}

def get : T α → Nat → Option α
  | .nil, _ => none
  | .node v _ _, 0 => v
  | .node _ l r, k + 1 => match k % 2 with
    | 0 => l.get (k / 2)
    | _ => r.get (k / 2)

def single : Nat → Nat → α → T α
  | 0, _, _ => .nil
  | _ + 1, 0, x => .node (some x) .nil .nil
  | n + 1, k + 1, x => match k % 2 with
    | 0 => .node none (single n (k / 2) x) .nil
    | _ => .node none .nil (single n (k / 2) x)

def set : T α → Nat → α → T α
  | .nil, k, x => single (k + 1) k x
  | .node _ l r, 0, x => .node (some x) l r
  | .node v l r, k + 1, x => match k % 2 with
    | 0 => .node v (l.set (k / 2) x) r
    | _ => .node v l (r.set (k / 2) x)

def del : T α → Nat → T α
  | .nil, _ => .nil
  | .node _ l r, 0 => .node none l r
  | .node v l r, k + 1 => match k % 2 with
    | 0 => .node v (l.del (k / 2)) r
    | _ => .node v l (r.del (k / 2))

theorem get_nil (k : Nat) : (T.nil : T α).get k = none := rfl

theorem get_single (n : Nat) : ∀ (k : Nat) (x : α) (j : Nat), k < n → (single n k x).get j = if j = k then some x else none := by
  induction n with
  | zero => intro k x j h; omega
  | succ n ih =>
    intro k x j h
    match k, j with
    | 0, 0 => simp [single, get]
    | 0, j + 1 => simp only [single, get]; split <;> simp [get]
    | k + 1, 0 => simp only [single]; split <;> simp [get]
    | k + 1, j + 1 =>
      simp only [single]
      have hk : k / 2 < n := by omega
      split <;> rename_i hk2
      · simp only [get]; split <;> rename_i hj2
        · rw [ih _ _ _ hk]; by_cases e : j = k
          · subst e; simp
          · have : ¬ j / 2 = k / 2 := by omega
            simp [e, this]
        · have e : ¬ j = k := fun e => by subst e; exact hj2 hk2
          simp [get, e]
      · simp only [get]; split <;> rename_i hj2
        · have e : ¬ j = k := fun e => by subst e; exact hk2 hj2
          simp [get, e]
        · rw [ih _ _ _ hk]; by_cases e : j = k
          · subst e; simp
          · have h1 : ¬ k % 2 = 0 := hk2
            have h2 : ¬ j % 2 = 0 := hj2
            have : ¬ j / 2 = k / 2 := by omega
            simp [e, this]

theorem get_set (t : T α) : ∀ (k : Nat) (x : α) (j : Nat), (t.set k x).get j = if j = k then some x else t.get j := by
  induction t with
  | nil => intro k x j; simp only [set, get_single (k + 1) k x j (by omega), get]
  | node v l r ihl ihr =>
    intro k x j
    match k, j with
    | 0, 0 => simp [set, get]
    | 0, j + 1 => simp [set, get]
    | k + 1, 0 => simp only [set]; split <;> simp [get]
    | k + 1, j + 1 =>
      simp only [set]
      split <;> rename_i hk2
      · simp only [get]; split <;> rename_i hj2
        · rw [ihl]; by_cases e : j = k
          · subst e; simp
          · have : ¬ j / 2 = k / 2 := by omega
            simp [e, this]
        · have e : ¬ j = k := fun e => by subst e; exact hj2 hk2
          simp [e]
      · simp only [get]; split <;> rename_i hj2
        · have e : ¬ j = k := fun e => by subst e; exact hk2 hj2
          simp [e]
        · rw [ihr]; by_cases e : j = k
          · subst e; simp
          · have h1 : ¬ k % 2 = 0 := hk2
            have h2 : ¬ j % 2 = 0 := hj2
            have : ¬ j / 2 = k / 2 := by omega
            simp [e, this]

theorem set_comm (t : T α) : ∀ (i j : Nat) (x y a b : α), i ≠ j → t.get i = some a → t.get j = some b → (t.set i x).set j y = (t.set j y).set i x := by
  induction t with
  | nil => intro i j x y a b _ h; cases h
  | node v l r ihl ihr =>
    intro i j x y a b hij hi hj
    match i, j with
    | 0, 0 => exact absurd rfl hij
    | 0, j + 1 => simp only [set]; split <;> rfl
    | i + 1, 0 => simp only [set]; split <;> rfl
    | i + 1, j + 1 =>
      simp only [get] at hi hj
      simp only [set]
      split at hi <;> rename_i h1 <;> split at hj <;> rename_i h2
      · simp only [h1, h2, set]
        rw [ihl (i / 2) (j / 2) x y a b (fun e => hij (by omega)) hi hj]
      · simp only [h1, set]
      · simp only [h2, set]
      · have : ¬ i / 2 = j / 2 := fun e => hij (by have : ¬ i % 2 = 0 := h1; have : ¬ j % 2 = 0 := h2; omega)
        simp only [set]
        rw [ihr (i / 2) (j / 2) x y a b this hi hj]

theorem get_del (t : T α) : ∀ (k j : Nat), (t.del k).get j = if j = k then none else t.get j := by
  induction t with
  | nil => intro k j; simp [del, get]
  | node v l r ihl ihr =>
    intro k j
    match k, j with
    | 0, 0 => simp [del, get]
    | 0, j + 1 => simp [del, get]
    | k + 1, 0 => simp only [del]; split <;> simp [get]
    | k + 1, j + 1 =>
      simp only [del]
      split <;> rename_i hk2
      · simp only [get]; split <;> rename_i hj2
        · rw [ihl]; by_cases e : j = k
          · subst e; simp
          · have : ¬ j / 2 = k / 2 := by omega
            simp [e, this]
        · have e : ¬ j = k := fun e => by subst e; exact hj2 hk2
          simp [e]
      · simp only [get]; split <;> rename_i hj2
        · have e : ¬ j = k := fun e => by subst e; exact hk2 hj2
          simp [e]
        · rw [ihr]; by_cases e : j = k
          · subst e; simp
          · have h1 : ¬ k % 2 = 0 := hk2
            have h2 : ¬ j % 2 = 0 := hj2
            have : ¬ j / 2 = k / 2 := by omega
            simp [e, this]
end T

/-! ### Values, heap -/

/-- A slice's capacity: known, over elements of so many cells; or open: no less than its length, over elements of so many cells (0: nothing is known of what lies behind). -/
inductive Cap where
  | fix (c es : Nat)
  | gro (es : Nat)

mutual
/-- A block: one that stood ahead of the call; one that the call has made (by its number); cells that will never change. -/
inductive Blk where
  | old (b : Nat)
  | new (k : Nat)
  | val (cs : List AV)
/-- 'lst': a slice over cells that will never change, by its content: the elements' size, how many they are, whether its capacity is its length. -/
inductive AV where
  | undef
  | bool (b : Bool)
  | int (k : IntKind) (n : Int)
  | str (s : List Nat)
  | nilp
  | ptr (p : Blk) (o : Nat)
  | nils
  | slice (p : Blk) (o n : Nat) (c : Cap)
  | emp
  | func (f : FuncId) (caps : List AV)
  | nilf
  | iface (t : TypeId) (v : AV)
  | nili
  | agg (cs : List AV)
  | tuple (vs : List AV)
  | nilm
  | map (k : Nat)
  | lst (es n : Nat) (full : Bool) (cs : List AV)
end

/-- A block's content: a row of cells ('es': it was made by append, over elements of so many cells; 0: it was not; 'fz': a string shares it; 'ty': what type it was made of, if that is held), or an iterator over a string. -/
inductive Obj where
  | row (cells : List AV) (es : Nat) (fz : Bool) (ty : Option Nat)
  | iter (s : List Nat) (pos : Nat)

def Obj.cells : Obj → Option (List AV)
  | .row cs _ _ _ => some cs
  | .iter _ _ => none

structure Heap where
  base : Nat → Option (List AV)
  t : T Obj
  n : Nat

def Heap.cells (H : Heap) : Blk → Option (List AV)
  | .old b => H.base b
  | .new k => (H.t.get k).bind (·.cells)
  | .val cs => some cs

def Heap.push (H : Heap) (o : Obj) : Heap := { base := H.base, t := H.t.set H.n o, n := H.n + 1 }

def Heap.put (H : Heap) (k : Nat) (o : Obj) : Heap := { base := H.base, t := H.t.set k o, n := H.n }

def Heap.del (H : Heap) (k : Nat) : Heap := { base := H.base, t := H.t.del k, n := H.n }

def Heap.ld1 (H : Heap) (p : Blk) (o : Nat) : Option AV := (H.cells p).bind (·[o]?)

def Heap.ldn (H : Heap) (p : Blk) (o n : Nat) : Option (List AV) :=
  (H.cells p).bind fun cs => if ((cs.drop o).take n).length = n then some ((cs.drop o).take n) else none

/-- cells put over others, from a place on -/
def putAt (cs : List AV) (o : Nat) (vs : List AV) : List AV := cs.take o ++ vs ++ cs.drop (o + vs.length)

def Heap.st (H : Heap) (p : Blk) (o : Nat) (vs : List AV) : Option Heap :=
  match p with
  | .old _ => none
  | .val _ => none
  | .new k => match H.t.get k with
    | some (.row cs es false ty) => if o + vs.length ≤ cs.length then some (H.put k (.row (putAt cs o vs) es false ty)) else none
    | _ => none

/-- a value's cells; of what isn't known none are told -/
def AV.cells : AV → Option (List AV)
  | .undef => none
  | .agg cs => some cs
  | v => some [v]

/-- one cell's value? -/
def AV.flat : AV → Bool
  | .agg _ | .tuple _ | .undef => false
  | _ => true

/-! ### Readings of values -/

def AV.asPtr : AV → Option (Blk × Nat)
  | .ptr p o => some (p, o)
  | _ => none

def AV.asBool : AV → Option Bool
  | .bool b => some b
  | _ => none

def AV.asInt : AV → Option Int
  | .int _ n => some n
  | _ => none

/-- an int that is no less than 0 -/
def AV.asNat : AV → Option Nat
  | .int _ n => if 0 ≤ n then some n.toNat else none
  | _ => none

def AV.asStr : AV → Option (List Nat)
  | .str s => some s
  | _ => none

/-! ### Arithmetic -/

def intBits (op : BinOp) (k : IntKind) (x y : Int) : Option Int :=
  let a := BitVec.ofInt k.bits x
  let b := BitVec.ofInt k.bits y
  match op with
  | .and => some (k.wrap (a &&& b).toNat)
  | .or => some (k.wrap (a ||| b).toNat)
  | .xor => some (k.wrap (a ^^^ b).toNat)
  | .andNot => some (k.wrap (a &&& ~~~b).toNat)
  | _ => none

def intBin (op : BinOp) (k : IntKind) (x y : Int) : Option AV :=
  match op with
  | .add => some (.int k (k.wrap (x + y)))
  | .sub => some (.int k (k.wrap (x - y)))
  | .mul => some (.int k (k.wrap (x * y)))
  | .quo => if y = 0 then none else some (.int k (k.wrap (x.tdiv y)))
  | .rem => if y = 0 then none else some (.int k (x.tmod y))
  | .eql => some (.bool (x == y))
  | .neq => some (.bool (x != y))
  | .lss => some (.bool (decide (x < y)))
  | .leq => some (.bool (decide (x ≤ y)))
  | .gtr => some (.bool (decide (x > y)))
  | .geq => some (.bool (decide (x ≥ y)))
  | op => (intBits op k x y).map fun n => .int k n

def shiftBin (op : BinOp) (k : IntKind) (x y : Int) : Option AV :=
  if y < 0 then none else
    let n := min y.toNat k.bits
    match op with
    | .shl => some (.int k (k.wrap (x * 2 ^ n)))
    | .shr => some (.int k (x.fdiv (2 ^ n)))
    | _ => none

def less : List Nat → List Nat → Bool
  | _, [] => false
  | [], _ :: _ => true
  | a :: x, b :: y => Nat.blt a b || (a == b && less x y)

def strBin (op : BinOp) (x y : List Nat) : Option AV :=
  match op with
  | .add => if x.length + y.length ≤ 4611686018427387904 then some (.str (x ++ y)) else none
  | .eql => some (.bool (x == y))
  | .neq => some (.bool (!(x == y)))
  | .lss => some (.bool (less x y))
  | .leq => some (.bool (less x y || x == y))
  | .gtr => some (.bool (!(less x y || x == y)))
  | .geq => some (.bool (!less x y))
  | _ => none

/-- what '==' compares, by the type -/
inductive EqT where
  | none
  | bool
  | ptr
  | slc
  | fn
  | many (offs : List (Nat × Nat))

/-- '==' of one cell; the kind: 0 a bool, 1 an int, 2 a string -/
def eq1 : Nat → AV → AV → Option Bool
  | 0, .bool a, .bool b => some (a == b)
  | 1, .int k a, .int k' b => if k = k' then some (a == b) else .none
  | 2, .str a, .str b => some (a == b)
  | _, _, _ => .none

def eqMany : List (Nat × Nat) → List AV → List AV → Option Bool
  | [], _, _ => some true
  | (o, q) :: os, xs, ys => (xs[o]?).bind fun x => (ys[o]?).bind fun y => (eq1 q x y).bind fun b => (eqMany os xs ys).map fun c => b && c

def eqv : EqT → AV → AV → Option Bool
  | .many offs, .agg xs, .agg ys => eqMany offs xs ys
  | .bool, .bool a, .bool b => some (a == b)
  | .ptr, .nilp, .nilp => some true
  | .ptr, .nilp, .ptr _ _ => some false
  | .ptr, .ptr _ _, .nilp => some false
  | .slc, .nils, .nils => some true
  | .slc, .nils, .slice _ _ _ _ => some false
  | .slc, .slice _ _ _ _, .nils => some false
  | .slc, .nils, .emp => some false
  | .slc, .emp, .nils => some false
  | .slc, .nils, .lst _ (_ + 1) _ _ => some false
  | .slc, .lst _ (_ + 1) _ _, .nils => some false
  | .fn, .nilf, .nilf => some true
  | .fn, .nilf, .func _ _ => some false
  | .fn, .func _ _, .nilf => some false
  | _, _, _ => .none

def bin (op : BinOp) (t : EqT) (x y : AV) : Option AV :=
  match x, y with
  | .int k a, .int k' b => match op with
    | .shl => shiftBin op k a b
    | .shr => shiftBin op k a b
    | op => if k = k' then intBin op k a b else .none
  | .str a, .str b => strBin op a b
  | x, y => match op with
    | .eql => (eqv t x y).map .bool
    | .neq => (eqv t x y).map fun b => .bool (!b)
    | _ => .none

end Go.Lite
