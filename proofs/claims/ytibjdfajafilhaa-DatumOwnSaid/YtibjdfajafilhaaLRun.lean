/-
  An interpreter over a slimmed form of the program's code: operations, code, runs.
-/
import Derived.Test.YtibjdfajafilhaaLBase
import GoSem.Core.Utf8
namespace Go.Lite
open Go
set_option linter.unusedSimpArgs false
set_option linter.unusedVariables false

inductive SX where
  | tmp (t : Nat)
  | lit (v : AV)

abbrev Fr := Nat → AV

def SX.ev (fr : Fr) : SX → AV
  | .tmp t => fr t
  | .lit v => v

def Fr.set (fr : Fr) (t : Nat) (v : AV) : Fr := fun s => bif Nat.beq s t then v else fr s

def Fr.put (fr : Fr) (d : Option Nat) (v : AV) : Fr :=
  match d with
  | some t => fr.set t v
  | none => fr

/-! ### Operations that leave the heap alone -/

inductive POp where
  | move (x : SX)
  | pick (c a b : SX)
  | build (zs : List AV) (parts : List (Nat × Nat × SX))
  | load1 (a : SX)
  | loadn (n : Nat) (a : SX)
  | nilchk (x : SX)
  | bin (op : BinOp) (t : EqT) (x y : SX)
  | not (x : SX)
  | neg (x : SX)
  | toInt (k : IntKind) (x : SX)
  | strOf (x : SX)
  | mkIface (t : TypeId) (x : SX)
  | closure (f : FuncId) (caps : List SX)
  | sliceS (size : Nat) (x : SX) (lo hi mx : Option SX)
  | sliceT (x : SX) (lo hi : Option SX)
  | faddr (off : Nat) (x : SX)
  | field1 (off : Nat) (x : SX)
  | fieldn (off n : Nat) (x : SX)
  | iaddr (size : Nat) (x i : SX)
  | iaddrA (ln size : Nat) (x i : SX)
  | indexT (x i : SX)
  | indexA1 (ln : Nat) (x i : SX)
  | extract (x : SX) (i : Nat)
  | lenT (x : SX)
  | lenS (x : SX)
  | min2 (x y : SX)
  | max2 (x y : SX)
  | assertT (x : SX) (t : TypeId)
  | assertOk (x : SX) (t : TypeId) (z : AV)
  | bytesStr (x : SX)

def fillAt (cs : List AV) : List (Nat × Nat × AV) → Option (List AV)
  | [] => some cs
  | (off, size, v) :: rest => v.cells.bind fun vs => if vs.length = size ∧ off + vs.length ≤ cs.length then fillAt (putAt cs off vs) rest else none

/-- a bound of a slice expression -/
def bnd (fr : Fr) (d : Nat) : Option SX → Option Nat
  | none => some d
  | some x => (x.ev fr).asNat

def capOf : Cap → Nat → Nat
  | .fix c _, _ => c
  | .gro _, n => n

def sliceOf (size : Nat) (v : AV) (l h : Option Nat) (m : Option Nat) : Option AV :=
  match v with
  | .nils => match l.getD 0, h.getD 0, m.getD 0 with
    | 0, 0, 0 => some .nils
    | _, _, _ => none
  | .emp => match l.getD 0, h.getD 0, m.getD 0 with
    | 0, 0, 0 => some .emp
    | _, _, _ => none
  | .slice p o n c =>
    let cp := capOf c n
    let mm := m.getD cp
    let hh := h.getD n
    let ll := l.getD 0
    if ll ≤ hh ∧ hh ≤ mm ∧ mm ≤ cp then
      match c, m with
      | .gro es, none => if ll = 0 ∨ ll < hh then some (.slice p (o + ll * size) (hh - ll) (.gro (if es = size then es else 0))) else some .emp
      | _, _ => some (.slice p (if mm = ll then o else o + ll * size) (hh - ll) (.fix (mm - ll) size))
    else none
  | .lst es n f cs =>
    let hh := h.getD n
    let ll := l.getD 0
    let mm := m.getD n
    if ll ≤ hh ∧ hh ≤ mm ∧ mm ≤ n ∧ (es = size ∨ n = 0) then some (.lst es (hh - ll) (bif f then Nat.beq mm hh else (match m with | none => false | some m => Nat.beq m hh)) ((cs.drop (ll * es)).take ((hh - ll) * es))) else none
  | _ => none

def optNat (fr : Fr) : Option SX → Option (Option Nat)
  | none => some none
  | some x => ((x.ev fr).asNat).map some

def bytesOf : List AV → Option (List Nat)
  | [] => some []
  | .int .u8 (.ofNat n) :: vs => if n < 256 then (bytesOf vs).map (n :: ·) else none
  | _ :: _ => none

def strOfBytes (H : Heap) : AV → Option AV
  | .nils => some (.str [])
  | .emp => some (.str [])
  | .slice p o n _ => (H.ldn p o n).bind fun cs => (bytesOf cs).map .str
  | .lst es n _ cs => if es = 1 ∨ n = 0 then (bytesOf cs).map .str else none
  | _ => none

/-- where an element lies -/
def iaddrV (size : Nat) (v : AV) (j : Nat) : Option AV :=
  match v with
  | .slice p o n _ => if j < n then some (.ptr p (o + j * size)) else none
  | .lst es n _ cs => if j < n ∧ es = size then some (.ptr (.val ((cs.drop (j * es)).take es)) 0) else none
  | _ => none

def POp.val (o : POp) (fr : Fr) (H : Heap) : Option AV :=
  match o with
  | .move x => some (x.ev fr)
  | .pick c a b => (c.ev fr).asBool.map fun t => bif t then a.ev fr else b.ev fr
  | .build zs parts => (fillAt zs (parts.map fun p => (p.1, p.2.1, p.2.2.ev fr))).map .agg
  | .load1 a => (a.ev fr).asPtr.bind fun q => H.ld1 q.1 q.2
  | .loadn n a => (a.ev fr).asPtr.bind fun q => (H.ldn q.1 q.2 n).map .agg
  | .nilchk x => match x.ev fr with
    | .ptr p o => some (.ptr p o)
    | .func f cs => some (.func f cs)
    | .iface t v => some (.iface t v)
    | _ => none
  | .bin op t x y => Lite.bin op t (x.ev fr) (y.ev fr)
  | .not x => (x.ev fr).asBool.map fun b => .bool (!b)
  | .neg x => match x.ev fr with
    | .int k n => some (.int k (k.wrap (0 - n)))
    | _ => none
  | .toInt k x => match x.ev fr with
    | .int _ n => some (.int k (k.wrap n))
    | _ => none
  | .strOf x => (x.ev fr).asStr.map .str
  | .mkIface t x => some (.iface t (x.ev fr))
  | .closure f caps => some (.func f (caps.map (·.ev fr)))
  | .sliceS size x lo hi mx => (optNat fr lo).bind fun l => (optNat fr hi).bind fun h => (optNat fr mx).bind fun m => sliceOf size (x.ev fr) l h m
  | .sliceT x lo hi => (x.ev fr).asStr.bind fun s => (bnd fr 0 lo).bind fun l => (bnd fr s.length hi).bind fun h =>
    if l ≤ h ∧ h ≤ s.length then some (.str ((s.drop l).take (h - l))) else none
  | .faddr off x => (x.ev fr).asPtr.map fun q => .ptr q.1 (q.2 + off)
  | .field1 off x => match x.ev fr with
    | .agg cs => cs[off]?
    | _ => none
  | .fieldn off n x => match x.ev fr with
    | .agg cs => some (.agg ((cs.drop off).take n))
    | _ => none
  | .iaddr size x i => (i.ev fr).asNat.bind fun j => iaddrV size (x.ev fr) j
  | .iaddrA ln size x i => (x.ev fr).asPtr.bind fun q => (i.ev fr).asNat.bind fun j => if j < ln then some (.ptr q.1 (q.2 + j * size)) else none
  | .indexT x i => (x.ev fr).asStr.bind fun s => (i.ev fr).asNat.bind fun j => (s[j]?).map fun (b : Nat) => AV.int .u8 (b : Int)
  | .indexA1 ln x i => match x.ev fr with
    | .agg cs => (i.ev fr).asNat.bind fun j => if j < ln then cs[j]? else none
    | _ => none
  | .extract x i => match x.ev fr with
    | .tuple vs => vs[i]?
    | _ => none
  | .lenT x => (x.ev fr).asStr.map fun s => .int .i64 s.length
  | .lenS x => match x.ev fr with
    | .slice _ _ n _ => some (.int .i64 n)
    | .nils => some (.int .i64 0)
    | .emp => some (.int .i64 0)
    | .lst _ n _ _ => some (.int .i64 n)
    | _ => none
  | .min2 x y => match x.ev fr, y.ev fr with
    | .int k a, .int _ b => some (.int k (if b < a then b else a))
    | _, _ => none
  | .max2 x y => match x.ev fr, y.ev fr with
    | .int k a, .int _ b => some (.int k (if b > a then b else a))
    | _, _ => none
  | .assertT x t => match x.ev fr with
    | .iface u v => if u = t then some v else none
    | _ => none
  | .assertOk x t z => match x.ev fr with
    | .iface u v => some (if u = t then .tuple [v, .bool true] else .tuple [z, .bool false])
    | .nili => some (.tuple [z, .bool false])
    | _ => none
  | .bytesStr x => strOfBytes H (x.ev fr)

/-! ### Content -/

mutual
/-- is it content alone? -/
def AV.pure : AV → Bool
  | .undef => false
  | .ptr p _ => p.pure
  | .slice p _ _ _ => p.pure
  | .agg cs => pures cs
  | .tuple cs => pures cs
  | .func _ cs => pures cs
  | .iface _ v => v.pure
  | _ => true
def Blk.pure : Blk → Bool
  | .new _ => false
  | _ => true
def pures : List AV → Bool
  | [] => true
  | v :: vs => v.pure && pures vs
end

/-- a list of content -/
def AV.L (f : Bool) (es : Nat) (cs : List AV) : Nat → AV
  | 0 => .lst 0 0 f []
  | n + 1 => .lst es (n + 1) false cs

/-- content, told in one way -/
def canon : AV → Option AV
  | .nils => some (.lst 0 0 true [])
  | .emp => some (.lst 0 0 false [])
  | .lst es n f cs => some (.L f es cs n)
  | v => if v.pure = true then some v else none

def canonL : List AV → Option (List AV)
  | [] => some []
  | c :: cs => (canon c).bind fun y => (canonL cs).map (y :: ·)

/-- .. of a list that may be appended to nothing is told: it stays as it is -/
def keepK (c : AV) : Option AV :=
  match c with
  | .lst _ (_ + 1) true _ => none
  | c => canon c

def layOf : List AV → Option (List AV)
  | [] => some []
  | c :: cs => (keepK c).bind fun y => (layOf cs).map (y :: ·)

theorem keepK_canon {c y : AV} (h : keepK c = some y) : canon c = some y := by
  unfold keepK at h
  split at h
  · cases h
  · exact h

theorem layOf_canonL : ∀ {cs ds : List AV}, layOf cs = some ds → canonL cs = some ds
  | [], ds, h => h
  | c :: cs, ds, h => by
    simp only [layOf, Option.bind_eq_some_iff, Option.map_eq_some_iff] at h
    obtain ⟨y, hy, zs, hz, rfl⟩ := h
    simp only [canonL, keepK_canon hy, layOf_canonL hz, Option.bind_some, Option.map_some]


/-! ### Operations that make a block -/

inductive AOp where
  | newc (t : Nat) (zs : List AV)
  | box (t : Nat) (x : SX)
  | buildS (zs : List AV) (len : Nat) (parts : List (Nat × Nat × SX))
  | makeS (zs : List AV) (bytes : Nat) (l c : SX)
  | strBytes (x : SX)
  | rangeT (x : SX)

def rep (zs : List AV) : Nat → List AV
  | 0 => []
  | n + 1 => zs ++ rep zs n

/-- a list that is written out: content, where all that it holds is; else a row -/
def lay (k es len : Nat) (cs : List AV) : Option (List AV) → Obj × AV
  | some ds => (.row ds 0 true none, bif Nat.beq len 0 then .lst 0 0 true [] else .lst es len true ds)
  | none => (.row cs 0 false none, .slice (.new k) 0 len (.fix len es))

def AOp.val (o : AOp) (fr : Fr) (k : Nat) : Option (Obj × AV) :=
  match o with
  | .newc t zs => some (.row zs 0 false (some t), .ptr (.new k) 0)
  | .box t x => (x.ev fr).cells.map fun cs => (.row cs 0 false (some t), .ptr (.new k) 0)
  | .buildS zs len parts => (fillAt zs (parts.map fun p => (p.1, p.2.1, p.2.2.ev fr))).map fun cs => lay k (zs.length / len) len cs (layOf cs)
  | .makeS zs bytes l c => (l.ev fr).asNat.bind fun l => (c.ev fr).asNat.bind fun c =>
    if l ≤ c ∧ c * bytes ≤ 1099511627776 ∧ c ≤ 1099511627776 then some (.row (rep zs c) 0 false none, .slice (.new k) 0 l (.fix c zs.length)) else none
  | .strBytes x => (x.ev fr).asStr.bind fun s => if s.length ≤ 1099511627776 then some (.row (s.map fun (b : Nat) => AV.int .u8 (b : Int)) 1 false none, .slice (.new k) 0 s.length (.gro 1)) else none
  | .rangeT x => (x.ev fr).asStr.map fun s => (.iter s 0, .ptr (.new k) 0)

/-! ### Operations that write -/

inductive WOp where
  | store (size : Nat) (a x : SX)
  | append (e size bytes : Nat) (s x : SX)
  | nextT (it : SX)

/-- what an append takes in: how many elements, their cells -/
def taken (size : Nat) (H : Heap) : AV → Option (Nat × List AV)
  | .nils => some (0, [])
  | .emp => some (0, [])
  | .slice p o n _ => (H.ldn p o (n * size)).map fun cs => (n, cs)
  | .lst es n _ cs => if es = size ∨ n = 0 then some (n, cs) else none
  | .str s => if size = 1 then some (s.length, s.map fun (b : Nat) => AV.int .u8 (b : Int)) else none
  | _ => none

def Heap.fresh (H : Heap) (size need : Nat) (ty : Option Nat) (cs : List AV) : AV × Heap :=
  (.slice (.new H.n) 0 need (.gro size), H.push (.row cs size false ty))

/-- the type of a row that is grown -/
def tyKeep (e o : Nat) : Option Nat → Option Nat
  | some t => bif Nat.beq t e && Nat.beq o 0 then some e else none
  | none => none

theorem tyKeep_spec {e o : Nat} {ty : Option Nat} {t : Nat} (h : tyKeep e o ty = some t) : t = e ∧ o = 0 ∧ ty = some e := by
  cases ty with
  | none => cases h
  | some u =>
    simp only [tyKeep] at h
    cases hb : Nat.beq u e && Nat.beq o 0 with
    | false => rw [hb] at h; cases h
    | true =>
      rw [hb] at h
      simp only [cond_true, Option.some.injEq] at h
      simp only [Bool.and_eq_true] at hb
      have h1 := Nat.eq_of_beq_eq_true hb.1
      have h2 := Nat.eq_of_beq_eq_true hb.2
      subst h1
      exact ⟨h.symm, h2, rfl⟩

def appendOf (e size bytes : Nat) (H : Heap) (s : AV) (x : Nat × List AV) : Option (AV × Heap) :=
  if size = 0 ∨ x.2.all AV.flat = false then none else
  match s with
  | .nils => if x.1 = 0 then some (.nils, H) else if x.1 * bytes ≤ 1099511627776 ∧ x.1 ≤ 1099511627776 then some (H.fresh size x.1 (some e) x.2) else none
  | .emp => if x.1 = 0 then some (.emp, H) else none
  | .slice p o n c =>
    if x.1 = 0 then some (.slice p o n c, H) else
    if (n + x.1) * bytes ≤ 1099511627776 ∧ n + x.1 ≤ 1099511627776 then
      match c with
      | .fix c es =>
        if n + x.1 ≤ c then (H.st p (o + n * size) x.2).map fun H' => (.slice p o (n + x.1) (.fix c es), H')
        else (H.ldn p o (n * size)).map fun old => H.fresh size (n + x.1) (some e) (old ++ x.2)
      | .gro es => if es = size then
          match p with
          | .old _ => none
          | .val _ => none
          | .new k => match H.t.get k with
            | some (.row cs es' false ty) => if es' = size ∧ o + n * size = cs.length then some ((H.del k).fresh size (n + x.1) (tyKeep e o ty) (cs.drop o ++ x.2)) else none
            | _ => none
        else none
    else none
  | .lst es n f cs =>
    if x.1 = 0 then some (.lst es n f cs, H) else
    if (es = size ∨ n = 0) ∧ f = true ∧ (n + x.1) * bytes ≤ 1099511627776 ∧ n + x.1 ≤ 1099511627776 then some (H.fresh size (n + x.1) (some e) (cs ++ x.2)) else none
  | _ => none

/-- UTF-8: the rune at the head, and its width -/
def decodeAt (s : List Nat) : Nat × Nat :=
  let at' (k : Nat) : Nat := s.getD k 0
  let cont (k : Nat) : Bool := decide (k < s.length) && at' k / 64 == 2
  let b0 := at' 0
  if b0 < 0x80 then (b0, 1)
  else if b0 / 32 == 6 && cont 1 then
    let c := (b0 % 32) * 64 + at' 1 % 64
    if c ≥ 0x80 then (c, 2) else (Utf8.runeError, 1)
  else if b0 / 16 == 14 && cont 1 && cont 2 then
    let c := (b0 % 16) * 4096 + (at' 1 % 64) * 64 + at' 2 % 64
    if c ≥ 0x800 && Utf8.valid c then (c, 3) else (Utf8.runeError, 1)
  else if b0 / 8 == 30 && cont 1 && cont 2 && cont 3 then
    let c := (b0 % 8) * 262144 + (at' 1 % 64) * 4096 + (at' 2 % 64) * 64 + at' 3 % 64
    if c ≥ 0x10000 && Utf8.valid c then (c, 4) else (Utf8.runeError, 1)
  else (Utf8.runeError, 1)

def WOp.val (o : WOp) (fr : Fr) (H : Heap) : Option (AV × Heap) :=
  match o with
  | .store size a x => (x.ev fr).cells.bind fun vs => if vs.length = size ∧ vs.all AV.flat = true then (a.ev fr).asPtr.bind fun q => (H.st q.1 q.2 vs).map fun H' => (.undef, H') else none
  | .append e size bytes s x => (taken size H (x.ev fr)).bind fun y => appendOf e size bytes H (s.ev fr) y
  | .nextT it => match it.ev fr with
    | .ptr (.new k) 0 => match H.t.get k with
      | some (.iter s pos) =>
        if pos < s.length then
          some (.tuple [.bool true, .int .i64 pos, .int .i32 (decodeAt (s.drop pos)).1], H.put k (.iter s (pos + (decodeAt (s.drop pos)).2)))
        else some (.tuple [.bool false], H)
      | _ => none
    | _ => none

/-! ### Runs -/

inductive Out where
  | ret (v : AV)
  | panic (v : AV)

abbrev R := Option (Out × Heap)
abbrev CallF := FuncId → List AV → Heap → R

def bindR (r : R) (k : AV → Heap → R) : R :=
  match r with
  | none => none
  | some (.panic v, H) => some (.panic v, H)
  | some (.ret v, H) => k v H

inductive SOp where
  | p (o : POp)
  | a (o : AOp)
  | w (o : WOp)
  | call (f : SX) (args : List SX)
  | panic (x : SX)

structure SOper where
  dst : Option Nat
  guard : Option (Nat × Bool)
  op : SOp

def callV (call : CallF) (f : AV) (args : List AV) (H : Heap) : R :=
  match f with
  | .func f caps => call f (args ++ caps) H
  | _ => none

def SOp.run (call : CallF) (o : SOp) (fr : Fr) (H : Heap) (k : AV → Heap → R) : R :=
  match o with
  | .p o => (o.val fr H).bind fun v => k v H
  | .a o => (o.val fr H.n).bind fun q => k q.2 (H.push q.1)
  | .w o => (o.val fr H).bind fun q => k q.1 q.2
  | .call f args => bindR (callV call (f.ev fr) (args.map (·.ev fr)) H) k
  | .panic x => match x.ev fr with
    | .iface t v => some (.panic (.iface t v), H)
    | _ => none

/-- is the operation carried out? -/
def wants (fr : Fr) : Option (Nat × Bool) → Option Bool
  | none => some true
  | some (t, b) => match fr t with
    | .bool c => some (c == b)
    | .tuple [] => some false
    | _ => none

/-- what an operation leaves that isn't carried out -/
def skipped : AV := .tuple []

/-- one operation -/
def SOper.run (call : CallF) (o : SOper) (fr : Fr) (H : Heap) (k : Fr → Heap → R) : R :=
  (wants fr o.guard).bind fun t => bif t then o.op.run call fr H fun v H' => k (fr.put o.dst v) H' else k (fr.put o.dst skipped) H

def sameCap : Cap → Cap → Bool
  | .fix p e, .fix q f => p == q && e == f
  | .gro p, .gro q => p == q
  | _, _ => false

mutual
/-- equal as far as it is told -/
def same (x : AV) (y : AV) : Bool :=
  match x, y with
  | .undef, .undef => true
  | .bool a, .bool b => a == b
  | .int k a, .int k' b => decide (k = k') && a == b
  | .str a, .str b => a == b
  | .nilp, .nilp => true
  | .ptr p o, .ptr q u => sameBlk p q && o == u
  | .nils, .nils => true
  | .slice p o n c, .slice q u m d => sameBlk p q && (o == u && (n == m && sameCap c d))
  | .emp, .emp => true
  | .nilf, .nilf => true
  | .nili, .nili => true
  | .nilm, .nilm => true
  | .map a, .map b => a == b
  | .agg xs, .agg ys => sames xs ys
  | .tuple xs, .tuple ys => sames xs ys
  | .iface t x, .iface u y => t == u && same x y
  | .func f xs, .func g ys => f == g && sames xs ys
  | .lst e n f xs, .lst e' n' f' ys => e == e' && (n == n' && (f == f' && sames xs ys))
  | _, _ => false
termination_by structural x
def sameBlk (x : Blk) (y : Blk) : Bool :=
  match x, y with
  | .old p, .old q => p == q
  | .new p, .new q => p == q
  | .val xs, .val ys => sames xs ys
  | _, _ => false
termination_by structural x
def sames (x : List AV) (y : List AV) : Bool :=
  match x, y with
  | [], [] => true
  | x :: xs, y :: ys => same x y && sames xs ys
  | _, _ => false
termination_by structural x
end

mutual
theorem same_refl : ∀ x : AV, same x x = true
  | .undef => rfl
  | .bool a => by simp [same]
  | .int k a => by simp [same]
  | .str a => by simp [same]
  | .nilp => rfl
  | .ptr p o => by simp [same, sameBlk_refl p]
  | .nils => rfl
  | .slice p o n c => by cases c <;> simp [same, sameBlk_refl p, sameCap]
  | .emp => rfl
  | .nilf => rfl
  | .nili => rfl
  | .nilm => rfl
  | .map a => by simp [same]
  | .agg xs => by simp [same, sames_refl xs]
  | .tuple xs => by simp [same, sames_refl xs]
  | .iface t x => by simp [same, same_refl x]
  | .func f xs => by simp [same, sames_refl xs]
  | .lst e n f xs => by simp [same, sames_refl xs]
theorem sameBlk_refl : ∀ x : Blk, sameBlk x x = true
  | .old p => by simp [sameBlk]
  | .new p => by simp [sameBlk]
  | .val xs => by simp [sameBlk, sames_refl xs]
theorem sames_refl : ∀ x : List AV, sames x x = true
  | [] => rfl
  | x :: xs => by simp [sames, same_refl x, sames_refl xs]
end

inductive Ex where
  | normal
  | exit (id : Nat)
  | ret

inductive SCode where
  | skip
  | ops (l : List SOper)
  | draw (pre : List SOper) (phs : List (SOper × List SOper × List SOper))
  | draw2 (pre : List SOper) (phs : List (SOper × List SOper × List SOper)) (a b : SOper)
  | seq (a b : SCode)
  | cond (c : SX) (a b : SCode)
  | block (id : Nat) (c : SCode)
  | loop (c : SCode)
  | exit (id : Nat)
  | ret

def runOps (call : CallF) : List SOper → Fr → Heap → (Fr → Heap → R) → R
  | [], fr, H, K => K fr H
  | o :: l, fr, H, K => o.run call fr H fun fr' H' => runOps call l fr' H' K

/-- the operation, met once more, yields what it has yielded -/
def SOper.again (o : SOper) (fr : Fr) (H : Heap) : Bool :=
  match o.dst, o.op, wants fr o.guard with
  | some t, .p q, some true => (match q.val fr H with | some v => same v (fr t) | none => false)
  | _, .p _, some false => true
  | _, _, _ => false

/-- a writer, what is met once more behind it, what may come then; and so on -/
def runPhs (call : CallF) : List (SOper × List SOper × List SOper) → Fr → Heap → (Fr → Heap → R) → R
  | [], fr, H, K => K fr H
  | (o, cks, sm) :: l, fr, H, K => o.run call fr H fun fr H => bif cks.all (·.again fr H) then runOps call sm fr H fun fr H => runPhs call l fr H K else none

/-- the row that an unguarded store is into -/
def SOper.into (o : SOper) (fr : Fr) : Option Nat :=
  match o.dst, o.guard, o.op with
  | none, none, .w (.store _ a _) => match a.ev fr with
    | .ptr (.new k) _ => some k
    | _ => none
  | _, _, _ => none

/-- two stores into two rows: which comes first does not count -/
def asunder (a b : SOper) (fr : Fr) : Bool :=
  match a.into fr, b.into fr with
  | some j, some k => !Nat.beq j k
  | _, _ => false

def loopN (body : Fr → Heap → (Ex → Fr → Heap → R) → R) : Nat → Fr → Heap → (Ex → Fr → Heap → R) → R
  | 0, _, _, _ => none
  | m + 1, fr, H, K => body fr H fun e fr' H' => match e with
    | .normal => loopN body m fr' H' K
    | e => K e fr' H'

def SCode.run (call : CallF) (n : Nat) : SCode → Fr → Heap → (Ex → Fr → Heap → R) → R
  | .skip, fr, H, K => K .normal fr H
  | .ops l, fr, H, K => runOps call l fr H (K .normal)
  | .draw pre phs, fr, H, K => runOps call pre fr H fun fr H => runPhs call phs fr H (K .normal)
  | .draw2 pre phs a b, fr, H, K => runOps call pre fr H fun fr H => runPhs call phs fr H fun fr H => bif asunder a b fr then a.run call fr H fun fr H => b.run call fr H (K .normal) else none
  | .seq a b, fr, H, K => a.run call n fr H fun e fr' H' => match e with
    | .normal => b.run call n fr' H' K
    | e => K e fr' H'
  | .cond c a b, fr, H, K => (c.ev fr).asBool.bind fun t => bif t then a.run call n fr H K else b.run call n fr H K
  | .block id c, fr, H, K => c.run call n fr H fun e fr' H' => match e with
    | .exit i => bif Nat.beq i id then K .normal fr' H' else K (.exit i) fr' H'
    | e => K e fr' H'
  | .loop c, fr, H, K => loopN (fun fr H K => c.run call n fr H K) n fr H K
  | .exit id, fr, H, K => K (.exit id) fr H
  | .ret, fr, H, K => K .ret fr H

inductive ResV where
  | tmp (t : Nat)
  | cell1 (t : Nat)
  | celln (t n : Nat)

def ResV.val (fr : Fr) (H : Heap) : ResV → Option AV
  | .tmp t => some (fr t)
  | .cell1 t => (fr t).asPtr.bind fun q => H.ld1 q.1 q.2
  | .celln t n => (fr t).asPtr.bind fun q => (H.ldn q.1 q.2 n).map .agg

def resVals (fr : Fr) (H : Heap) : List ResV → Option (List AV)
  | [] => some []
  | r :: rs => (r.val fr H).bind fun v => (resVals fr H rs).map (v :: ·)

def oneOr : List AV → AV
  | [v] => v
  | vs => .tuple vs

structure SFunc where
  nt : Nat
  body : SCode
  res : List ResV

def finish (res : List ResV) : Ex → Fr → Heap → R
  | .exit _, _, _ => none
  | _, fr, H => (resVals fr H res).map fun vs => (.ret (oneOr vs), H)

def initFr (args : List AV) : Fr := fun t => (args[t]?).getD .undef

/-! ### Calls that are sealed -/

/-- the elements' size -/
def Cap.es : Cap → Nat
  | .fix _ es => es
  | .gro es => es

/-- is the capacity the length? -/
def Cap.full (n : Nat) : Cap → Bool
  | .fix c _ => Nat.beq c n
  | .gro _ => false

def mapHM (f : AV → Heap → Option (AV × Heap)) : List AV → Heap → Option (List AV × Heap)
  | [], H => some ([], H)
  | v :: vs, H => (f v H).bind fun q => (mapHM f vs q.2).map fun r => (q.1 :: r.1, r.2)

/-- a row, as content; it will not change any more -/
def shutRow (f : AV → Heap → Option (AV × Heap)) (H : Heap) (k o n : Nat) (c : Cap) : Option Obj → Option (AV × Heap)
  | some (.row cs es _ ty) =>
    if ((cs.drop o).take (n * c.es)).length = n * c.es ∧ (n = 0 ∨ c.es ≠ 0) then
      (mapHM f ((cs.drop o).take (n * c.es)) (H.put k (.row cs es true ty))).map fun q => (.L (c.full 0) c.es q.1 n, q.2)
    else none
  | _ => none

/-- one cell's value, as content; the number: how deep rows may lie in rows -/
def shutC : Nat → AV → Heap → Option (AV × Heap)
  | 0, v, H => (canon v).map fun v => (v, H)
  | d + 1, v, H => match v with
    | .slice (.new k) o n c => shutRow (shutC d) H k o n c (H.t.get k)
    | v => (canon v).map fun v => (v, H)

/-- what a tuple holds -/
def shutA : AV → Heap → Option (AV × Heap)
  | .agg cs, H => (mapHM (shutC 64) cs H).map fun q => (.agg q.1, q.2)
  | .func f cs, H => (mapHM (shutC 64) cs H).map fun q => (.func f q.1, q.2)
  | v, H => shutC 64 v H

/-- what was made, as content -/
def shutV : AV → Heap → Option (AV × Heap)
  | .tuple cs, H => (mapHM shutA cs H).map fun q => (.tuple q.1, q.2)
  | .iface t v, H => (shutA v H).map fun q => (.iface t q.1, q.2)
  | v, H => shutA v H

/-- .. where that can be told -/
def softV (v : AV) (H : Heap) : Option (AV × Heap) :=
  match shutV v H with
  | some q => some q
  | none => some (v, H)

/-- the heap as a sealed call finds it -/
def Heap.bare (H : Heap) : Heap := { base := H.base, t := .nil, n := 0 }

/-- what a sealed call leaves -/
def opened (H : Heap) : R → R
  | none => none
  | some (.ret v, H') => (shutV v H').map fun q => (.ret q.1, H)
  | some (.panic v, H') => (shutV v H').map fun q => (.panic q.1, H)

/-- what a call leaves whose result is content -/
def settled : R → R
  | some (.ret v, H') => (shutV v H').map fun q => (.ret q.1, q.2)
  | r => r

/-- what the interpreter takes the functions for: slimmed code, or a Lean function of its own; which calls are sealed (2), or have content for arguments and results (1), for arguments alone (3; 4: what it calls of itself is sealed) -/
structure Prg where
  code : FuncId → Option SFunc
  own : FuncId → Option (List AV → Heap → R)
  mode : FuncId → Nat

/-- .. where a function's own calls of itself are sealed -/
def Prg.seal (P : Prg) (f : FuncId) : Prg := { P with mode := fun g => bif Nat.beq g f then 2 else P.mode g }

def callN : Prg → Nat → CallF
  | _, 0, _, _, _ => none
  | P, n + 1, f, args, H => match P.own f with
    | some g => g args H
    | none => match P.code f with
      | some sf => bif Nat.ble args.length sf.nt then
          match P.mode f with
          | 0 => sf.body.run (callN P n) n (initFr args) H (finish sf.res)
          | 1 => (mapHM softV args H).bind fun q => settled (sf.body.run (callN P n) n (initFr q.1) q.2 (finish sf.res))
          | 3 => (mapHM softV args H).bind fun q => sf.body.run (callN P n) n (initFr q.1) q.2 (finish sf.res)
          | 4 => (mapHM softV args H).bind fun q => sf.body.run (callN (P.seal f) n) n (initFr q.1) q.2 (finish sf.res)
          | _ => (mapHM shutV args H).bind fun q => opened q.2 (sf.body.run (callN P n) n (initFr q.1) q.2.bare (finish sf.res))
        else none
      | none => none

end Go.Lite
