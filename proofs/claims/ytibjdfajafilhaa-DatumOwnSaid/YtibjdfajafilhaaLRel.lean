/-
  What the interpreter's values and heap say of a world.
-/
import Derived.Test.YtibjdfajafilhaaLRun
import Derived.Calls
import Derived.Orders
import Derived.Laws.Sem
namespace Go.Lite
open Go
set_option linter.unusedSimpArgs false
set_option linter.unusedVariables false

/-- Where a block of the interpreter's lies: in which block of the world, from which cell on, up to where (from there) it may grow. -/
structure Loc where
  blk : Nat
  off : Nat
  lim : Nat

/-- Where the blocks lie; which of the world's blocks will not change any more, and what they hold. -/
structure Emb where
  map : Nat → Option Loc
  fz : Nat → Option (Array Value)

instance : CoeFun Emb (fun _ => Nat → Option Loc) := ⟨Emb.map⟩

structure Emb.le (ι ι' : Emb) : Prop where
  map : ∀ k l, ι k = some l → ι' k = some l
  fz : ∀ b c, ι.fz b = some c → ι'.fz b = some c

theorem Emb.le_refl (ι : Emb) : ι.le ι := ⟨fun _ _ h => h, fun _ _ h => h⟩
theorem Emb.le_trans {ι ι' ι'' : Emb} (h : ι.le ι') (h' : ι'.le ι'') : ι.le ι'' := ⟨fun k l e => h'.map k l (h.map k l e), fun k l e => h'.fz k l (h.fz k l e)⟩

/-- what will not change alone -/
def Emb.bare (ι : Emb) : Emb := ⟨fun _ => none, ι.fz⟩

theorem Emb.bare_le (ι : Emb) : ι.bare.le ι := ⟨fun _ _ h => (by cases h), fun _ _ h => h⟩
theorem Emb.bare_mono {ι ι' : Emb} (h : ι.le ι') : ι.bare.le ι'.bare := ⟨fun _ _ h => (by cases h), h.fz⟩
theorem Emb.bare_bare (ι : Emb) : ι.bare.bare = ι.bare := rfl

/-- these lie there, and will not change -/
def Emb.holds (ι : Emb) (b o : Nat) (vs : List Value) : Prop := ∃ c, ι.fz b = some c ∧ ∀ (i : Nat) v, vs[i]? = some v → c[o + i]? = some v

theorem Emb.holds_mono {ι ι' : Emb} (h : ι.le ι') {b o : Nat} {vs : List Value} (k : ι.holds b o vs) : ι'.holds b o vs := by
  obtain ⟨c, h1, h2⟩ := k
  exact ⟨c, h.fz b c h1, h2⟩

/-- A slice's capacity, as far as it is told. -/
def capRel (l : Loc) (o n cap : Nat) : Cap → Prop
  | .fix c _ => cap = c
  | .gro es => es = 0 ∨ o + cap * es ≤ l.lim

def bytesRel (s : List Nat) (b : ByteArray) : Prop := b.data.toList.map (·.toNat) = s

/-- How many blocks stand already (they will not change), and what is known of a world in which they stand. -/
structure NB where
  n : Nat
  inv : World → Prop
  keep : ∀ w w' : World, (∀ b, b < n → w'.heap[b]? = w.heap[b]?) → inv w → inv w'

instance : Coe NB Nat := ⟨NB.n⟩

/-- nothing but their number is known -/
def NB.of (n : Nat) : NB := ⟨n, fun _ => True, fun _ _ _ _ => trivial⟩

mutual
def VRel (nb : NB) (ι : Emb) : AV → Value → Prop
  | .undef, _ => True
  | .bool b, v => v = .bool b
  | .int k n, v => v = .int k n
  | .str s, v => ∃ b, v = .string b ∧ bytesRel s b
  | .nilp, v => v = .pointer none
  | .ptr p o, v => ∃ l, locOf nb ι p l ∧ v = .pointer (some ⟨l.blk, l.off + o, none⟩)
  | .nils, v => v = .slice none 0 0
  | .slice p o n c, v => ∃ l cap, locOf nb ι p l ∧ v = .slice (some ⟨l.blk, l.off + o, none⟩) n cap ∧ n ≤ cap ∧ capRel l o n cap c
  | .emp, v => ∃ a cap, v = .slice (some a) 0 cap
  | .func f caps, v => ∃ cs, v = .func (.func f) #[] cs ∧ VRels nb ι caps cs.toList
  | .nilf, v => v = .nilFunc
  | .iface t x, v => ∃ y, v = .iface t y ∧ VRel nb ι x y
  | .nili, v => v = .nilIface
  | .agg cs, v => ∃ l, v = .agg l ∧ VRels nb ι cs l.toList
  | .tuple vs, v => ∃ l, v = .tuple l ∧ VRels nb ι vs l.toList
  | .nilm, v => v = .map none
  | .map _, _ => False
  | .lst es n f cs, v => cs.length = n * es ∧ ∃ a cap, v = .slice a n cap ∧ n ≤ cap ∧ (f = true → cap = n) ∧ (a = none → cap = 0) ∧ (n ≠ 0 → ∃ b o vs, a = some ⟨b, o, none⟩ ∧ VRels nb ι.bare cs vs ∧ ι.holds b o vs)
/-- Where a block lies. -/
def locOf (nb : NB) (ι : Emb) : Blk → Loc → Prop
  | .old b, l => b < nb ∧ l = ⟨b, 0, 0⟩
  | .new k, l => ι k = some l
  | .val cs, l => ∃ vs, VRels nb ι.bare cs vs ∧ ι.holds l.blk l.off vs
def VRels (nb : NB) (ι : Emb) : List AV → List Value → Prop
  | [], l => l = []
  | x :: xs, l => ∃ y ys, l = y :: ys ∧ VRel nb ι x y ∧ VRels nb ι xs ys
end

mutual
theorem VRel.mono {nb : NB} {ι ι' : Emb} (h : ι.le ι') : ∀ (x : AV) (v : Value), VRel nb ι x v → VRel nb ι' x v
  | .undef, _, _ => by simp [VRel]
  | .bool b, v, r => by simpa [VRel] using r
  | .int k n, v, r => by simpa [VRel] using r
  | .str s, v, r => by simpa [VRel] using r
  | .nilp, v, r => by simpa [VRel] using r
  | .ptr p o, v, r => by
    simp only [VRel] at r ⊢
    obtain ⟨l, e, rfl⟩ := r
    exact ⟨l, locOf_mono h p l e, rfl⟩
  | .nils, v, r => by simpa [VRel] using r
  | .slice p o n c, v, r => by
    simp only [VRel] at r ⊢
    obtain ⟨l, cap, e, rfl, h1, h2⟩ := r
    exact ⟨l, cap, locOf_mono h p l e, rfl, h1, h2⟩
  | .emp, v, r => by simpa [VRel] using r
  | .func f caps, v, r => by
    simp only [VRel] at r ⊢
    obtain ⟨cs, rfl, h1⟩ := r
    exact ⟨cs, rfl, VRels.mono h caps _ h1⟩
  | .nilf, v, r => by simpa [VRel] using r
  | .iface t x, v, r => by
    simp only [VRel] at r ⊢
    obtain ⟨y, rfl, h1⟩ := r
    exact ⟨y, rfl, VRel.mono h x _ h1⟩
  | .nili, v, r => by simpa [VRel] using r
  | .agg cs, v, r => by
    simp only [VRel] at r ⊢
    obtain ⟨l, rfl, h1⟩ := r
    exact ⟨l, rfl, VRels.mono h cs _ h1⟩
  | .tuple cs, v, r => by
    simp only [VRel] at r ⊢
    obtain ⟨l, rfl, h1⟩ := r
    exact ⟨l, rfl, VRels.mono h cs _ h1⟩
  | .nilm, v, r => by simpa [VRel] using r
  | .map _, v, r => by simp [VRel] at r
  | .lst es n f cs, v, r => by
    simp only [VRel] at r ⊢
    obtain ⟨h0, a, cap, rfl, h1, h2, h3, h4⟩ := r
    refine ⟨h0, a, cap, rfl, h1, h2, h3, fun hn => ?_⟩
    obtain ⟨b, o, vs, e, h5, h6⟩ := h4 hn
    exact ⟨b, o, vs, e, VRels.mono (Emb.bare_mono h) cs _ h5, Emb.holds_mono h h6⟩
theorem locOf_mono {nb : NB} {ι ι' : Emb} (h : ι.le ι') : ∀ (p : Blk) (l : Loc), locOf nb ι p l → locOf nb ι' p l
  | .old b, l, e => by simpa [locOf] using e
  | .new k, l, e => by
    simp only [locOf] at e ⊢
    exact h.map k l e
  | .val cs, l, e => by
    simp only [locOf] at e ⊢
    obtain ⟨vs, h1, h2⟩ := e
    exact ⟨vs, VRels.mono (Emb.bare_mono h) cs _ h1, Emb.holds_mono h h2⟩
theorem VRels.mono {nb : NB} {ι ι' : Emb} (h : ι.le ι') : ∀ (xs : List AV) (vs : List Value), VRels nb ι xs vs → VRels nb ι' xs vs
  | [], vs, r => by simpa [VRels] using r
  | x :: xs, vs, r => by
    simp only [VRels] at r ⊢
    obtain ⟨y, ys, rfl, h1, h2⟩ := r
    exact ⟨y, ys, rfl, VRel.mono h x _ h1, VRels.mono h xs _ h2⟩
end

mutual
/-- content does not ask where blocks lie -/
theorem VRel.pure {nb : NB} {ι : Emb} : ∀ (x : AV) (v : Value), x.pure = true → VRel nb ι x v → VRel nb ι.bare x v
  | .undef, _, h, _ => by simp [AV.pure] at h
  | .bool b, v, _, r => by simpa [VRel] using r
  | .int k n, v, _, r => by simpa [VRel] using r
  | .str s, v, _, r => by simpa [VRel] using r
  | .nilp, v, _, r => by simpa [VRel] using r
  | .ptr p o, v, h, r => by
    simp only [VRel] at r ⊢
    simp only [AV.pure] at h
    obtain ⟨l, e, rfl⟩ := r
    exact ⟨l, locOf_pure p l h e, rfl⟩
  | .nils, v, _, r => by simpa [VRel] using r
  | .slice p o n c, v, h, r => by
    simp only [VRel] at r ⊢
    simp only [AV.pure] at h
    obtain ⟨l, cap, e, rfl, h1, h2⟩ := r
    exact ⟨l, cap, locOf_pure p l h e, rfl, h1, h2⟩
  | .emp, v, _, r => by simpa [VRel] using r
  | .func f caps, v, h, r => by
    simp only [VRel] at r ⊢
    simp only [AV.pure] at h
    obtain ⟨cs, rfl, h1⟩ := r
    exact ⟨cs, rfl, VRels.pure caps _ h h1⟩
  | .nilf, v, _, r => by simpa [VRel] using r
  | .iface t x, v, h, r => by
    simp only [VRel] at r ⊢
    simp only [AV.pure] at h
    obtain ⟨y, rfl, h1⟩ := r
    exact ⟨y, rfl, VRel.pure x _ h h1⟩
  | .nili, v, _, r => by simpa [VRel] using r
  | .agg cs, v, h, r => by
    simp only [VRel] at r ⊢
    simp only [AV.pure] at h
    obtain ⟨l, rfl, h1⟩ := r
    exact ⟨l, rfl, VRels.pure cs _ h h1⟩
  | .tuple cs, v, h, r => by
    simp only [VRel] at r ⊢
    simp only [AV.pure] at h
    obtain ⟨l, rfl, h1⟩ := r
    exact ⟨l, rfl, VRels.pure cs _ h h1⟩
  | .nilm, v, _, r => by simpa [VRel] using r
  | .map _, v, _, r => by simp [VRel] at r
  | .lst es n f cs, v, _, r => by
    simp only [VRel, Emb.bare_bare] at r ⊢
    exact r
theorem locOf_pure {nb : NB} {ι : Emb} : ∀ (p : Blk) (l : Loc), p.pure = true → locOf nb ι p l → locOf nb ι.bare p l
  | .old b, l, _, e => by simpa [locOf] using e
  | .new k, l, h, _ => by simp [Blk.pure] at h
  | .val cs, l, _, e => by
    simp only [locOf, Emb.bare_bare] at e ⊢
    exact e
theorem VRels.pure {nb : NB} {ι : Emb} : ∀ (xs : List AV) (vs : List Value), pures xs = true → VRels nb ι xs vs → VRels nb ι.bare xs vs
  | [], vs, _, r => by simpa [VRels] using r
  | x :: xs, vs, h, r => by
    simp only [VRels] at r ⊢
    simp only [pures, Bool.and_eq_true] at h
    obtain ⟨y, ys, rfl, h1, h2⟩ := r
    exact ⟨y, ys, rfl, VRel.pure x _ h.1 h1, VRels.pure xs _ h.2 h2⟩
end

theorem VRels.get {nb : NB} {ι : Emb} : ∀ {xs : List AV} {vs : List Value}, VRels nb ι xs vs → ∀ (i : Nat) (x : AV), xs[i]? = some x → ∃ v, vs[i]? = some v ∧ VRel nb ι x v
  | [], vs, _, i, x, h => by simp at h
  | y :: ys, vs, r, i, x, h => by
    simp only [VRels] at r
    obtain ⟨z, zs, rfl, h1, h2⟩ := r
    cases i with
    | zero => simp at h; subst h; exact ⟨z, rfl, h1⟩
    | succ i => simp at h ⊢; exact VRels.get h2 i x h

theorem VRels.length {nb : NB} {ι : Emb} : ∀ {xs : List AV} {vs : List Value}, VRels nb ι xs vs → vs.length = xs.length
  | [], vs, r => by simp only [VRels] at r; subst r; rfl
  | y :: ys, vs, r => by
    simp only [VRels] at r
    obtain ⟨z, zs, rfl, h1, h2⟩ := r
    simp [VRels.length h2]

theorem VRels.of_get {nb : NB} {ι : Emb} : ∀ {xs : List AV} {vs : List Value}, vs.length = xs.length → (∀ (i : Nat) (x : AV) (v : Value), xs[i]? = some x → vs[i]? = some v → VRel nb ι x v) → VRels nb ι xs vs
  | [], vs, hl, _ => by simp only [VRels]; simpa using hl
  | y :: ys, [], hl, _ => by simp at hl
  | y :: ys, z :: zs, hl, h => by
    simp only [VRels]
    refine ⟨z, zs, rfl, h 0 y z rfl rfl, VRels.of_get (by simpa using hl) fun i x v hx hv => h (i + 1) x v (by simpa using hx) (by simpa using hv)⟩

theorem VRels.append {nb : NB} {ι : Emb} {xs ys : List AV} {vs us : List Value} (h : VRels nb ι xs vs) (h' : VRels nb ι ys us) : VRels nb ι (xs ++ ys) (vs ++ us) := by
  induction xs generalizing vs with
  | nil => simp only [VRels] at h; subst h; exact h'
  | cons x xs ih =>
    simp only [VRels] at h
    obtain ⟨z, zs, rfl, h1, h2⟩ := h
    simp only [List.cons_append, VRels]
    exact ⟨z, zs ++ us, rfl, h1, ih h2⟩

theorem VRels.take {nb : NB} {ι : Emb} {xs : List AV} {vs : List Value} (h : VRels nb ι xs vs) (n : Nat) : VRels nb ι (xs.take n) (vs.take n) := by
  induction xs generalizing vs n with
  | nil => simp only [VRels] at h; subst h; simp [VRels]
  | cons x xs ih =>
    simp only [VRels] at h
    obtain ⟨z, zs, rfl, h1, h2⟩ := h
    cases n with
    | zero => simp [VRels]
    | succ n => simp only [List.take_succ_cons, VRels]; exact ⟨z, _, rfl, h1, ih h2 n⟩

theorem VRels.drop {nb : NB} {ι : Emb} {xs : List AV} {vs : List Value} (h : VRels nb ι xs vs) (n : Nat) : VRels nb ι (xs.drop n) (vs.drop n) := by
  induction xs generalizing vs n with
  | nil => simp only [VRels] at h; subst h; simp [VRels]
  | cons x xs ih =>
    cases n with
    | zero => simpa using h
    | succ n =>
      simp only [VRels] at h
      obtain ⟨z, zs, rfl, h1, h2⟩ := h
      simpa using ih h2 n

theorem VRels.putAt {nb : NB} {ι : Emb} {xs ys : List AV} {vs us : List Value} (h : VRels nb ι xs vs) (o : Nat) (h' : VRels nb ι ys us) :
    VRels nb ι (putAt xs o ys) (vs.take o ++ us ++ vs.drop (o + us.length)) := by
  unfold Lite.putAt
  rw [h'.length]
  exact (h.take o |>.append h').append (h.drop _)

/-- a value's cells -/
theorem VRel.cells {nb : NB} {ι : Emb} {x : AV} {v : Value} {cs : List AV} (h : VRel nb ι x v) (hx : x.cells = some cs) : VRels nb ι cs v.cells.toList := by
  cases x <;> simp only [AV.cells, Option.some.injEq, reduceCtorEq] at hx <;> subst hx
  case agg =>
    simp only [VRel] at h
    obtain ⟨l, rfl, h1⟩ := h
    exact h1
  case map => simp [VRel] at h
  all_goals (
    have h' := h
    simp only [VRel] at h
    simp only [VRels]
    first
      | (obtain ⟨l, rfl, h1⟩ := h; exact ⟨_, [], rfl, h', rfl⟩)
      | (obtain ⟨h0, a, cap, rfl, _⟩ := h; exact ⟨_, [], rfl, h', rfl⟩)
      | (obtain ⟨l, e, rfl⟩ := h; exact ⟨_, [], rfl, h', rfl⟩)
      | (obtain ⟨l, cap, e, rfl, h1, h2⟩ := h; exact ⟨_, [], rfl, h', rfl⟩)
      | (obtain ⟨l, cap, rfl⟩ := h; exact ⟨_, [], rfl, h', rfl⟩)
      | (subst h; exact ⟨_, [], rfl, h', rfl⟩))

theorem VRel.flat {nb : NB} {ι : Emb} {x : AV} {v : Value} (h : VRel nb ι x v) (hx : x.flat = true) : v.oneCell' = true := by
  cases x <;> simp [AV.flat] at hx <;> simp only [VRel] at h
  case bool | int | nilp | nils | nilf | nili | nilm => subst h; rfl
  case str | iface | func => obtain ⟨l, rfl, h1⟩ := h; rfl
  case ptr => obtain ⟨l, e, rfl⟩ := h; rfl
  case slice => obtain ⟨l, cap, e, rfl, h1, h2⟩ := h; rfl
  case emp => obtain ⟨l, cap, rfl⟩ := h; rfl
  case lst => obtain ⟨_, a, cap, rfl, _⟩ := h; rfl

theorem VRels.flat {nb : NB} {ι : Emb} : ∀ {xs : List AV} {vs : List Value}, VRels nb ι xs vs → xs.all AV.flat = true → ∀ v ∈ vs, v.oneCell' = true
  | [], vs, r, _, v, hv => by simp only [VRels] at r; subst r; cases hv
  | x :: xs, vs, r, hx, v, hv => by
    simp only [VRels] at r
    obtain ⟨y, ys, rfl, h1, h2⟩ := r
    simp only [List.all_cons, Bool.and_eq_true] at hx
    rcases List.mem_cons.1 hv with rfl | hv
    · exact h1.flat hx.1
    · exact h2.flat hx.2 v hv

/-! ### The heap -/

/-- What type a row was made of, and that it is there from its first cell on. -/
def TyRel (w : World) (l : Loc) (es len : Nat) (ty : Option Nat) : Prop := ∀ t, ty = some t → l.off = 0 ∧ ∃ c, w.shape? l.blk = some (t, c) ∧ (es = 0 → c = len)

theorem TyRel.of_shape {w w' : World} {l : Loc} {es len : Nat} {ty : Option Nat} (h : w'.shape? l.blk = w.shape? l.blk) (r : TyRel w l es len ty) : TyRel w' l es len ty := fun t ht => by
  obtain ⟨h0, c, h1, h2⟩ := r t ht
  exact ⟨h0, c, h.trans h1, h2⟩

theorem TyRel.of_heap {w w' : World} {l : Loc} {es len : Nat} {ty : Option Nat} (h : w'.heap[l.blk]? = w.heap[l.blk]?) (r : TyRel w l es len ty) : TyRel w' l es len ty :=
  r.of_shape (by simp only [World.shape?, h])

structure Rel (nb : NB) (ι : Emb) (H : Heap) (w : World) : Prop where
  nbw : nb ≤ w.heap.size
  old : ∀ b cs, H.base b = some cs → b < nb ∧ ∀ i x, cs[i]? = some x → ∃ v, w.cell? ⟨b, i, none⟩ = some v ∧ VRel nb ι.bare x v
  row : ∀ k l cs es fz ty, ι k = some l → H.t.get k = some (.row cs es fz ty) →
    (∀ i x, cs[i]? = some x → ∃ v, w.cell? ⟨l.blk, l.off + i, none⟩ = some v ∧ VRel nb ι x v) ∧
    (fz = false → ∀ i v, w.cell? ⟨l.blk, i, none⟩ = some v → w.frozen? ⟨l.blk, i, none⟩ = false) ∧
    (es ≠ 0 → ∀ i, i < l.lim → ∃ v, w.cell? ⟨l.blk, l.off + i, none⟩ = some v) ∧ TyRel w l es cs.length ty
  iter : ∀ k l s pos, ι k = some l → H.t.get k = some (.iter s pos) → l.off = 0 ∧ ∃ b, bytesRel s b ∧ w.heap[l.blk]? = some (.stringIter b pos)
  dom : ∀ k l, ι k = some l → nb ≤ l.blk ∧ l.blk < w.heap.size ∧ k < H.n
  inj : ∀ k k' l l' o o', ι k = some l → ι k' = some l' → H.t.get k = some o → H.t.get k' = some o' → l.blk = l'.blk → k = k'
  lt : ∀ k o, H.t.get k = some o → k < H.n
  fz : ∀ b c, ι.fz b = some c → b < w.heap.size ∧ (∀ i : Nat, w.cell? ⟨b, i, none⟩ = c[i]?) ∧ ∀ k l o, ι k = some l → H.t.get k = some o → l.blk = b → ∃ cs es ty, o = .row cs es true ty
  inv : nb.inv w

/-- The world with another heap: the streams are as they were. -/
def Turned (w w' : World) (h : Array Go.Obj) : Prop := w' = { w with heap := h, drawn := w'.drawn }

theorem Turned.heap {w w' : World} {h : Array Go.Obj} (t : Turned w w' h) : w'.heap = h := by unfold Turned at t; rw [t]
theorem Turned.env {w w' : World} {h : Array Go.Obj} (t : Turned w w' h) : w'.os = w.os ∧ w'.tape = w.tape ∧ w'.output = w.output := by unfold Turned at t; rw [t]; exact ⟨rfl, rfl, rfl⟩

/-- What a step may do to the world, and to what is known of it. -/
structure Ext (nb : NB) (ι : Emb) (H : Heap) (w : World) (ι' : Emb) (H' : Heap) (w' : World) : Prop where
  le : ι.le ι'
  size : w.heap.size ≤ w'.heap.size
  kept : ∀ b, b < w.heap.size → (b < nb ∨ ∀ k l, ι k = some l → l.blk ≠ b) → w'.heap[b]? = w.heap[b]?
  rng : ∀ k l, ι' k = some l → l.blk < w.heap.size → ∃ k0 l0, ι k0 = some l0 ∧ l0.blk = l.blk
  fresh : ∀ k l, ι' k = some l → ι k = some l ∨ H.n ≤ k
  n : H.n ≤ H'.n
  unborn : ∀ k, k < H.n → ι k = none → H'.t.get k = H.t.get k
  base : H'.base = H.base
  env : w'.os = w.os ∧ w'.tape = w.tape ∧ w'.output = w.output
  frz : ∀ b c, ι'.fz b = some c → ι.fz b = some c ∨ w.heap.size ≤ b ∨ ∃ k l, ι k = some l ∧ l.blk = b

theorem Ext.refl {nb : NB} {ι : Emb} {H : Heap} {w : World} : Ext nb ι H w ι H w :=
  ⟨Emb.le_refl ι, Nat.le_refl _, fun _ _ _ => rfl, fun k l h _ => ⟨k, l, h, rfl⟩, fun _ _ h => .inl h, Nat.le_refl _, fun _ _ _ => rfl, rfl, ⟨rfl, rfl, rfl⟩, fun _ _ h => .inl h⟩

/-- A world with the same heap. -/
theorem Ext.same {nb : NB} {ι : Emb} {H : Heap} {w w' : World} (h : Turned w w' w.heap) : Ext nb ι H w ι H w' :=
  ⟨Emb.le_refl ι, by rw [h.heap]; exact Nat.le_refl _, fun _ _ _ => by rw [h.heap], fun k l h' hl => ⟨k, l, h', rfl⟩, fun _ _ h => .inl h, Nat.le_refl _, fun _ _ _ => rfl, rfl, h.env, fun _ _ h => .inl h⟩

theorem Ext.trans {nb : NB} {ι ι' ι'' : Emb} {H H' H'' : Heap} {w w' w'' : World} (h : Ext nb ι H w ι' H' w') (h' : Ext nb ι' H' w' ι'' H'' w'') : Ext nb ι H w ι'' H'' w'' where
  le := Emb.le_trans h.le h'.le
  size := Nat.le_trans h.size h'.size
  kept b hb hc := by
    rw [← h.kept b hb hc]
    refine h'.kept b (Nat.lt_of_lt_of_le hb h.size) (hc.imp id fun hn k l e hl => ?_)
    obtain ⟨k0, l0, e0, hl0⟩ := h.rng k l e (by omega)
    exact hn k0 l0 e0 (by omega)
  rng k l e hl := by
    obtain ⟨k1, l1, e1, hl1⟩ := h'.rng k l e (Nat.lt_of_lt_of_le hl h.size)
    obtain ⟨k0, l0, e0, hl0⟩ := h.rng k1 l1 e1 (by omega)
    exact ⟨k0, l0, e0, by omega⟩
  fresh k l e := by
    rcases h'.fresh k l e with h1 | h1
    · exact h.fresh k l h1
    · exact .inr (Nat.le_trans h.n h1)
  n := Nat.le_trans h.n h'.n
  unborn k hk e := by
    rw [← h.unborn k hk e]
    refine h'.unborn k (Nat.lt_of_lt_of_le hk h.n) ?_
    cases e' : ι' k with
    | none => rfl
    | some l =>
      rcases h.fresh k l e' with h1 | h1
      · rw [e] at h1; cases h1
      · omega
  base := h'.base.trans h.base
  env := ⟨h'.env.1.trans h.env.1, h'.env.2.1.trans h.env.2.1, h'.env.2.2.trans h.env.2.2⟩
  frz b c e := by
    rcases h'.frz b c e with h1 | h1 | ⟨k, l, e1, hl⟩
    · exact h.frz b c h1
    · exact .inr (.inl (Nat.le_trans h.size h1))
    · rcases Nat.lt_or_ge b w.heap.size with hb | hb
      · obtain ⟨k0, l0, e0, hl0⟩ := h.rng k l e1 (by omega)
        exact .inr (.inr ⟨k0, l0, e0, by omega⟩)
      · exact .inr (.inl hb)

theorem cell?_of_heap {w w' : World} {b : Nat} (h : w'.heap[b]? = w.heap[b]?) (i : Nat) : w'.cell? ⟨b, i, none⟩ = w.cell? ⟨b, i, none⟩ := by
  simp only [World.cell?, h]

theorem frozen?_of_heap {w w' : World} {b : Nat} (h : w'.heap[b]? = w.heap[b]?) (i : Nat) : w'.frozen? ⟨b, i, none⟩ = w.frozen? ⟨b, i, none⟩ := by
  simp only [World.frozen?, h]

/-- Of a world with the same heap the same is known. -/
theorem Rel.same {nb : NB} {ι : Emb} {H : Heap} {w w' : World} (h : w'.heap = w.heap) (r : Rel nb ι H w) : Rel nb ι H w' where
  nbw := by rw [h]; exact r.nbw
  old b cs hb := ⟨(r.old b cs hb).1, fun i x hx => by
    obtain ⟨v, hv, hr⟩ := (r.old b cs hb).2 i x hx
    exact ⟨v, (cell?_of_heap (w := w) (w' := w') (by rw [h]) _).trans hv, hr⟩⟩
  row k l cs es fz ty hk ho := by
    obtain ⟨h1, h2, h3, h4⟩ := r.row k l cs es fz ty hk ho
    refine ⟨fun i x hx => ?_, fun hf i v hv => ?_, fun he i hi => ?_, h4.of_heap (by rw [h])⟩
    · obtain ⟨v, hv, hr⟩ := h1 i x hx
      exact ⟨v, (cell?_of_heap (w := w) (w' := w') (by rw [h]) _).trans hv, hr⟩
    · exact (frozen?_of_heap (w := w) (w' := w') (by rw [h]) _).trans (h2 hf i v ((cell?_of_heap (w := w) (w' := w') (by rw [h]) _).symm.trans hv))
    · obtain ⟨v, hv⟩ := h3 he i hi
      exact ⟨v, (cell?_of_heap (w := w) (w' := w') (by rw [h]) _).trans hv⟩
  iter k l s pos hk ho := by rw [h]; exact r.iter k l s pos hk ho
  dom k l hk := by rw [h]; exact r.dom k l hk
  inj := r.inj
  lt := r.lt
  fz b c hb := by
    obtain ⟨h1, h2, h3⟩ := r.fz b c hb
    exact ⟨by rw [h]; exact h1, fun i => (cell?_of_heap (w := w) (w' := w') (by rw [h]) _).trans (h2 i), h3⟩
  inv := nb.keep w w' (fun b _ => by rw [h]) r.inv

/-- what will not change is there -/
theorem Rel.held {nb : NB} {ι : Emb} {H : Heap} {w : World} (r : Rel nb ι H w) {b o : Nat} {vs : List Value} (h : ι.holds b o vs) : ∀ i v, vs[i]? = some v → w.cell? ⟨b, o + i, none⟩ = some v := fun i v hv => by
  obtain ⟨c, h1, h2⟩ := h
  rw [(r.fz b c h1).2.1]
  exact h2 i v hv

/-- The frame. -/
def FRel (nb : NB) (ι : Emb) (fr : Fr) (tmps : Array Value) : Prop := ∀ t, VRel nb ι (fr t) (tmps.getD t undef)

theorem FRel.mono {nb : NB} {ι ι' : Emb} (h : ι.le ι') {fr : Fr} {tmps : Array Value} (r : FRel nb ι fr tmps) : FRel nb ι' fr tmps := fun t => (r t).mono h

theorem FRel.set {nb : NB} {ι : Emb} {fr : Fr} {tmps : Array Value} (r : FRel nb ι fr tmps) {d : Nat} (hd : d < tmps.size) {x : AV} {v : Value} (h : VRel nb ι x v) :
    FRel nb ι (fr.set d x) (tmps.setIfInBounds d v) := fun t => by
  by_cases e : t = d
  · subst e
    simp only [Fr.set, Nat.beq_refl, cond_true]
    simpa [Array.getD_eq_getD_getElem?, hd] using h
  · have e' : Nat.beq t d = false := by
      cases hb : Nat.beq t d with
      | false => rfl
      | true => exact absurd (Nat.eq_of_beq_eq_true hb) e
    simp only [Fr.set, e', cond_false]
    have : (tmps.setIfInBounds d v).getD t undef = tmps.getD t undef := by
      simp only [Array.getD_eq_getD_getElem?, Array.getElem?_setIfInBounds_ne (Ne.symm e)]
    rw [this]; exact r t

end Go.Lite
