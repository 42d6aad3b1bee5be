/-
  A row's call: the interpreter's first heap, read off the world.
-/
import Derived.Test.YtibjdfajafilhaaLCode
import Derived.HandedShaped
import Derived.Below
namespace Go.Lite
open Go Go.RowKit
set_option linter.unusedSimpArgs false
set_option linter.unusedVariables false

variable {P : Program} {nb : Nat} {ι : Emb} {W : World}

/-- an old value -/
def absO (nb : Nat) (v : Value) : AV :=
  match absC v with
  | some x => x
  | none => match v with
    | .pointer (some ⟨b, o, none⟩) => bif Nat.blt b nb then .ptr (.old b) o else .undef
    | .slice (some ⟨b, o, none⟩) n cap => bif Nat.blt b nb && Nat.ble n cap then .slice (.old b) o n (.gro 0) else .undef
    | _ => .undef

theorem absO_sound (v : Value) : VRel nb ι (absO nb v) v := by
  unfold absO
  split
  · rename_i x hx; exact absC_sound hx
  · split
    · rename_i b o _
      cases h : Nat.blt b nb with
      | false => simp [VRel]
      | true =>
        have : b < nb := by simpa [Nat.blt_eq] using h
        simp [VRel, locOf, this]
    · rename_i b o n cap _
      cases h : Nat.blt b nb && Nat.ble n cap with
      | false => simp [VRel]
      | true =>
        simp only [Bool.and_eq_true] at h
        have h1 : b < nb := by simpa [Nat.blt_eq] using h.1
        have h2 : n ≤ cap := Nat.le_of_ble_eq_true h.2
        simp [VRel, locOf, h1, capRel, h2]
    · simp [VRel]

/-- the heap as it stands before the call: nothing of the call's own -/
def heapOf (W : World) : Heap := { base := fun b => match W.heap[b]? with | some (.cells c _ _) => some (c.toList.map (absO W.heap.size)) | _ => none, t := .nil, n := 0 }

theorem heapOf_rel (W : World) : Rel W.heap.size (fun _ => none) (heapOf W) W where
  nbw := Nat.le_refl _
  old b cs hb := by
    simp only [heapOf] at hb
    split at hb
    · rename_i c t fz hh
      simp only [Option.some.injEq] at hb
      subst hb
      refine ⟨(Array.getElem?_eq_some_iff.1 hh).1, fun i x hx => ?_⟩
      simp only [List.getElem?_map, Option.map_eq_some_iff] at hx
      obtain ⟨v, hv, rfl⟩ := hx
      refine ⟨v, ?_, absO_sound v⟩
      simp only [World.cell?, hh]
      simpa using hv
    · cases hb
  row k l cs es fz ty h := by cases h
  iter k l s pos h := by cases h
  dom k l h := by cases h
  inj k k' l l' o o' h := by cases h
  lt k o h := by simp [heapOf, T.get_nil] at h

theorem globals_le (h : W.ShapedOpen P) : P.globals.size ≤ W.heap.size := by
  obtain ⟨o, _, h1, _⟩ := h.2 P.globals.size (Nat.le_refl _) (by simp [begin]; omega)
  have := (Array.getElem?_eq_some_iff.1 h1).1
  omega

theorem Ext.below {H H' : Heap} {ι' : Emb} {w' : World} (h : Ext W.heap.size (fun _ => none) H W ι' H' w') : Below W.heap.size W w' :=
  ⟨h.env.1, h.env.2.1, h.env.2.2, h.size, fun k hk => h.kept k hk (.inl hk)⟩

theorem row_run (hgl : P.globals.size ≤ W.heap.size) (hm : P.follows .mixedOrders = true) {own : FuncId → Option (List AV → Heap → R)} (hown : ∀ f g, own f = some g → OwnOk P W.heap.size f g) {n : Nat} {f : FuncId} {xs : List AV} {args : Array Value}
    {H' : Heap} (h : callN (slimPrg P own) n f xs (heapOf W) = some (.ret (.bool true), H')) (hxs : VRels W.heap.size (fun _ => none) xs args.toList) :
    Calls P f args W fun e w' => e = .returned (.bool true) ∧ Below W.heap.size W w' := by
  refine ((callN_sound hgl hm hown n f xs args _ _ W _ h hxs (heapOf_rel W)).2).mono fun e w' hp => ?_
  cases e <;> simp only [CallPost] at hp
  case returned v =>
    obtain ⟨ι', x, h1, h2, h3, h4⟩ := hp
    simp only [Out.ret.injEq] at h1
    subst h1
    simp only [VRel] at h2
    subst h2
    exact ⟨rfl, h4.below⟩
  all_goals (first | exact hp.elim | (obtain ⟨_, _, _, h, _⟩ := hp; cases h))

end Go.Lite
