/-
  A row's call: the interpreter's first heap is bare; what stands in the world will not change.
-/
import Derived.Test.YtibjdfajafilhaaLCode
import Derived.HandedShaped
import Derived.Below
namespace Go.Lite
open Go Go.RowKit
set_option linter.unusedSimpArgs false
set_option linter.unusedVariables false

variable {P : Program} {nb : NB} {ι : Emb} {W : World}

/-- nothing is there -/
def heap0 : Heap := { base := fun _ => none, t := .nil, n := 0 }

/-- what stands in the world will not change -/
def emb0 (W : World) : Emb := ⟨fun _ => none, fun b => if b < W.heap.size then some (cellsAt W b) else none⟩

theorem emb0_bare (W : World) : (emb0 W).bare = emb0 W := rfl

theorem heap0_rel (W : World) (hn : nb.n = W.heap.size) (hi : nb.inv W) : Rel nb (emb0 W) heap0 W where
  nbw := Nat.le_of_eq hn
  inv := hi
  old b cs hb := by cases hb
  row k l cs es fz ty h := by cases h
  iter k l s pos h := by cases h
  dom k l h := by cases h
  inj k k' l l' o o' h := by cases h
  lt k o h := by simp [heap0, T.get_nil] at h
  fz b c h := by
    simp only [emb0] at h
    split at h
    case isFalse => cases h
    rename_i hb
    simp only [Option.some.injEq] at h
    subst h
    exact ⟨hb, fun i => cellsAt_cell W b i, fun k l o h => by cases h⟩

theorem globals_le (h : W.ShapedOpen P) : P.globals.size ≤ W.heap.size := by
  obtain ⟨o, _, h1, _⟩ := h.2 P.globals.size (Nat.le_refl _) (by simp [begin]; omega)
  have := (Array.getElem?_eq_some_iff.1 h1).1
  omega

theorem Ext.below {H H' : Heap} {ι' : Emb} {w' : World} (hn : nb.n = W.heap.size) (h : Ext nb (emb0 W) H W ι' H' w') : Below W.heap.size W w' :=
  ⟨h.env.1, h.env.2.1, h.env.2.2, h.size, fun k hk => h.kept k hk (.inl (by rw [hn]; exact hk))⟩

theorem row_runN (hn : nb.n = W.heap.size) (hi : nb.inv W) (hgl : P.globals.size ≤ W.heap.size) (hm : P.follows .mixedOrders = true) {own : FuncId → Option (List AV → Heap → R)} (hown : ∀ f g, own f = some g → OwnOk P nb f g) {mode : FuncId → Nat} {n : Nat} {f : FuncId} {xs : List AV} {args : Array Value}
    {H' : Heap} (h : callN (slimPrg P own mode) n f xs heap0 = some (.ret (.bool true), H')) (hxs : VRels nb (emb0 W) xs args.toList) :
    Calls P f args W fun e w' => e = .returned (.bool true) ∧ Below W.heap.size W w' := by
  refine ((callN_sound (by rw [hn]; exact hgl) hm hown n f xs args _ _ W _ h hxs (heap0_rel W hn hi)).2).mono fun e w' hp => ?_
  cases e <;> simp only [CallPost] at hp
  case returned v =>
    obtain ⟨ι', x, h1, h2, h3, h4⟩ := hp
    simp only [Out.ret.injEq] at h1
    subst h1
    simp only [VRel] at h2
    subst h2
    exact ⟨rfl, Ext.below hn h4⟩
  all_goals (first | exact hp.elim | (obtain ⟨_, _, _, h, _⟩ := hp; cases h))

theorem row_run (hgl : P.globals.size ≤ W.heap.size) (hm : P.follows .mixedOrders = true) {own : FuncId → Option (List AV → Heap → R)} (hown : ∀ f g, own f = some g → OwnOk P (NB.of W.heap.size) f g) {mode : FuncId → Nat} {n : Nat} {f : FuncId} {xs : List AV} {args : Array Value}
    {H' : Heap} (h : callN (slimPrg P own mode) n f xs heap0 = some (.ret (.bool true), H')) (hxs : VRels (NB.of W.heap.size) (emb0 W) xs args.toList) :
    Calls P f args W fun e w' => e = .returned (.bool true) ∧ Below W.heap.size W w' :=
  row_runN (nb := NB.of W.heap.size) rfl trivial hgl hm hown h hxs

end Go.Lite
