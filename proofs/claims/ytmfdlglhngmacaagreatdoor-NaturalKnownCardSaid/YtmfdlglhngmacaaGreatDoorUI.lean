/-
  Several texts in one: TNData, TNSame, TNIs, TNNum, TNName, TNPure, TNChain, TNRefA, TNRaw, TNMakeA, TNArity, TNOnce, TNGood, TNPart, TNMakeB, TNMakeC.
-/
import Derived.Test.YtmfdlglhngmacaaGreatDoorUG
import Derived.Test.YtmfdlglhngmacaaGreatDoorUE

set_option linter.unusedSimpArgs false
set_option linter.unusedVariables false
set_option linter.defProp false
set_option maxRecDepth 100000

/-
  Terms as Lean trees, and as the interpreter's values; seat r2's program as the interpreter takes it.
-/
namespace Go.Lite
open Go Go.Proofs
/-! ### Sizes -/
mutual
def X.size : X → Nat
  | .mk _ _ _ l => 1 + X.sizes l
def X.sizes : List X → Nat
  | [] => 0
  | d :: ds => d.size + X.sizes ds
end
end Go.Lite

/-
  Terms: what is the same; atoms; whether a term Is, by the program and by the document.
-/
namespace Go.Lite
open Go Go.Proofs
def zipAll {α β : Type} (p : α → β → Bool) : List α → List β → Bool
  | [], [] => true
  | x :: xs, y :: ys => p x y && zipAll p xs ys
  | _, _ => false
mutual
def X.same : X → X → Bool
  | .mk k t ns l, .mk k' t' ns' l' => k == k' && (t == t' && (zipAll (· == ·) ns ns' && X.sames l l'))
def X.sames : List X → List X → Bool
  | [], [] => true
  | x :: xs, y :: ys => X.same x y && X.sames xs ys
  | _, _ => false
end
theorem X.sames_eq : ∀ l l' : List X, X.sames l l' = zipAll X.same l l'
  | [], [] => by simp [X.sames, zipAll]
  | [], y :: ys => by simp [X.sames, zipAll]
  | x :: xs, [] => by simp [X.sames, zipAll]
  | x :: xs, y :: ys => by rw [X.sames, zipAll, X.sames_eq xs ys]
end Go.Lite

/-
  Atoms; whether all arguments are atoms: the program's Is, the document's.
-/
namespace Go.Lite
open Go Go.Proofs
def atomK (k : Int) : Bool := decide (1 ≤ k) && decide (k ≤ 5)
def X.atom : X → Bool | .mk k _ _ _ => atomK k
def X.kind : X → Int | .mk k _ _ _ => k
def consT : Str := [99, 111, 110, 115]
def must (k : Int) (t : Str) : Option Nat := if k = 7 then some 1 else if k = 10 ∧ t = consT then some 0 else none
/-! ### All of them -/
mutual
def X.is : X → Bool
  | .mk k t _ a => X.iss a && (a.drop ((must k t).getD a.length)).all X.atom
def X.iss : List X → Bool
  | [] => true
  | x :: l => X.is x && X.iss l
end
end Go.Lite

/-
  Numbers' texts: of less than a hundred; names that are new.
-/
namespace Go.Lite
open Go Go.Proofs
end Go.Lite

/-
  Names that are new; a name's term; a binding.
-/
namespace Go.Lite
open Go Go.Proofs
def bindX (s : Str) (x y : X) : X := .mk 9 [] [s] [x, y]
theorem vStrs_one (s : Str) : vStrs [s] = .lst 1 1 false [.str s] := rfl
theorem vXs_two (x y : X) : vXs [x, y] = .lst 4 2 false (x.cells ++ y.cells) := by
  simp only [vXs, vList_cons, List.flatMap_cons, List.flatMap_nil, List.append_nil, List.length_cons, List.length_nil]
end Go.Lite

/-
  Arguments by name, as a function of terms.
-/
namespace Go.Lite
open Go Go.Proofs
def bindAll (l : List (Str × X)) (e : X) : X := l.foldr (fun p e => bindX p.1 p.2 e) e
end Go.Lite

/-
  Bindings about bindings, as they lie in rows; they are told as content.
-/
namespace Go.Lite
open Go Go.Proofs
theorem flat_snoc {α : Type} {g : α → List AV} (l : List α) (x : α) : (l ++ [x]).flatMap g = l.flatMap g ++ g x := by simp
inductive Chain (B : Nat) (H : Heap) (x : X) : List (Str × X) → List AV → Nat → Prop where
  | nil {b : Nat} : B ≤ b → Chain B H x [] x.cells b
  | cons {s : Str} {y : X} {l : List (Str × X)} {cells : List AV} {b r : Nat} : Chain B H x l cells b → b ≤ r → H.t.get r = some (.row (y.cells ++ cells) 4 false (some 28)) →
      Chain B H x ((s, y) :: l) [.int .i64 9, .str [], .lst 1 1 true [.str s], .slice (.new r) 0 2 (.gro 4)] (r + 1)
theorem Chain.le {B : Nat} {H : Heap} {x : X} {l : List (Str × X)} {cells : List AV} {b : Nat} (h : Chain B H x l cells b) : B ≤ b := by
  induction h with
  | nil h => exact h
  | cons _ h _ ih => omega
theorem Chain.len {B : Nat} {H : Heap} {x : X} {l : List (Str × X)} {cells : List AV} {b : Nat} (h : Chain B H x l cells b) : cells.length = 4 := by
  cases h with
  | nil h => exact X.cells_len x
  | cons _ h _ => rfl
theorem Chain.flat {B : Nat} {H : Heap} {x : X} {l : List (Str × X)} {cells : List AV} {b : Nat} (h : Chain B H x l cells b) : cells.all AV.flat = true := by
  cases h with
  | nil h => exact X.flat x
  | cons _ h _ => rfl
theorem Chain.keep {B : Nat} {H H' : Heap} {x : X} {l : List (Str × X)} {cells : List AV} {b : Nat} (h : Chain B H x l cells b) (k : ∀ j, B ≤ j → j < b → H'.t.get j = H.t.get j) : Chain B H' x l cells b := by
  induction h with
  | nil h => exact .nil h
  | cons c h g ih =>
    have := c.le
    exact .cons (ih fun j h1 h2 => k j h1 (by omega)) h (by rw [k _ (by omega) (by omega)]; exact g)
theorem Chain.mono {B : Nat} {H : Heap} {x : X} {l : List (Str × X)} {cells : List AV} {b b' : Nat} (h : Chain B H x l cells b) (hb : b ≤ b') (hl : l = []) : Chain B H x l cells b' := by
  cases h with
  | nil h => exact .nil (by omega)
  | cons _ _ _ => cases hl
theorem mapHM_append {f : AV → Heap → Option (AV × Heap)} : ∀ {xs ys : List AV} {H H1 H2 : Heap} {us vs : List AV}, mapHM f xs H = some (us, H1) → mapHM f ys H1 = some (vs, H2) → mapHM f (xs ++ ys) H = some (us ++ vs, H2)
  | [], ys, H, H1, H2, us, vs, h, k => by
    simp only [mapHM_nil, Option.some.injEq, Prod.mk.injEq] at h
    obtain ⟨rfl, rfl⟩ := h
    exact k
  | x :: xs, ys, H, H1, H2, us, vs, h, k => by
    simp only [mapHM_cons, Option.bind_eq_some_iff, Option.map_eq_some_iff, Prod.mk.injEq] at h
    obtain ⟨⟨y, G⟩, hy, ⟨zs, G2⟩, hz, rfl, rfl⟩ := h
    simp only [List.cons_append, mapHM_cons, hy, Option.bind_some, mapHM_append hz k, Option.map_some]
theorem Chain.shut {B : Nat} {x : X} : ∀ {l : List (Str × X)} {H : Heap} {cells : List AV} {b : Nat}, Chain B H x l cells b → ∀ d, l.length ≤ d → HLow H →
    ∃ H', mapHM (shutC d) cells H = some ((bindAll l x).cells, H') ∧ (∀ j, (j < B ∨ b ≤ j) → H'.t.get j = H.t.get j) ∧ H'.n = H.n ∧ HLow H'
  | [], H, cells, b, h, d, hd, low => by
    cases h with
    | nil h => exact ⟨H, x.still.map d H, fun _ _ => rfl, rfl, low⟩
  | (s, y) :: l, H, cells, b, h, d, hd, low => by
    cases h with
    | @cons _ _ _ cells b r c hb g =>
      have hbl := c.le
      obtain ⟨d, rfl⟩ : ∃ d', d = d' + 1 := ⟨d - 1, by simp only [List.length_cons] at hd; omega⟩
      have hr : r < H.n := low _ _ g
      have low1 : HLow (H.put r (.row (y.cells ++ cells) 4 true (some 28))) := low.put hr
      have c1 : Chain B (H.put r (.row (y.cells ++ cells) 4 true (some 28))) x l cells b := c.keep fun j h1 h2 => by rw [h_gput, if_neg (by omega)]
      obtain ⟨H', e1, e2, e3, e4⟩ := Chain.shut c1 d (by simp only [List.length_cons] at hd; omega) low1
      have hlen : (y.cells ++ cells).length = 2 * 4 := by rw [List.length_append, X.cells_len, c.len]
      have ht : (y.cells ++ cells).take (2 * 4) = y.cells ++ cells := by rw [← hlen, List.take_length]
      refine ⟨H', ?_, fun j hj => ?_, by rw [e3]; simp [h_nput], e4⟩
      · have hs : shutC (d + 1) (.slice (.new r) 0 2 (.gro 4)) H = some (vXs [y, bindAll l x], H') := by
          simp only [shutC, g, shutRow, List.drop_zero, Cap.es]
          rw [ht, if_pos ⟨hlen, .inr (by decide)⟩, mapHM_append (y.still.map d _) e1]
          rw [vXs_two]
          rfl
        have hb2 : bindAll ((s, y) :: l) x = bindX s y (bindAll l x) := rfl
        rw [hb2, bindX, X.cells_mk, vStrs_one]
        simp only [mapHM_cons, mapHM_nil, shutC_int, shutC_str, shutC_lstF, hs, Option.bind_some, Option.map_some, L_succ, vStrs_nil]
      · rw [e2 j (by omega), h_gput, if_neg (by omega)]
end Go.Lite

/-
  A copy of names; what is told of it later.
-/
namespace Go.Lite
open Go Go.Proofs
def NamesAt (N : Nat) (H : Heap) (ns : List Str) (v : AV) : Prop := (ns = [] ∧ v = .lst 0 0 true []) ∨ Acc N H 9 1 ns.length (ns.flatMap str1) v
theorem NamesAt.flat {N : Nat} {H : Heap} {ns : List Str} {v : AV} (h : NamesAt N H ns v) : v.flat = true := by
  rcases h with ⟨_, rfl⟩ | h
  · rfl
  · exact h.flat
theorem NamesAt.shut {N : Nat} {H : Heap} {ns : List Str} {v : AV} (h : NamesAt N H ns v) (d : Nat) : ∃ H', shutC (d + 1) v H = some (vStrs ns, H') ∧ HKeep (blk v) H H' := by
  rcases h with ⟨rfl, rfl⟩ | h
  · exact ⟨H, rfl, HKeep.refl⟩
  · exact h.shut (by decide) (Still.flat str1_still _)
theorem NamesAt.weak {N N' : Nat} {H : Heap} {ns : List Str} {v : AV} (h : NamesAt N H ns v) (hN : N' ≤ N) : NamesAt N' H ns v := by
  rcases h with h | h | ⟨h1, h2, k, h3, h4, h5⟩
  · exact .inl h
  · exact .inr (.inl h)
  · exact .inr (.inr ⟨h1, h2, k, h3, by omega, h5⟩)
theorem NamesAt.kept {X : Nat → Obj → Prop} {N : Nat} {H H' : Heap} {ns : List Str} {v : AV} (h : NamesAt N H ns v) (k : HKeep X H H') (hx : ∀ j o, N ≤ j → blk v j o → ¬ X j o) : NamesAt N H' ns v := by
  rcases h with h | h
  · exact .inl h
  · refine .inr (h.keep fun j o hb hj => ?_)
    rcases h with ⟨_, _, rfl⟩ | ⟨_, _, k', rfl, h3, h4⟩
    · obtain ⟨_, _, _, e⟩ := hb
      cases e
    · obtain ⟨_, _, _, e⟩ := hb
      simp only [AV.slice.injEq, Blk.new.injEq] at e
      obtain ⟨rfl, _⟩ := e
      rw [h4]
      exact k.get _ _ h4 (hx _ _ h3 ⟨_, _, _, rfl⟩)
end Go.Lite

/-
  Raw terms: how many they are.
-/
namespace Go.Lite
open Go Go.Proofs
inductive Raw where
  | mk (k n : Int) (l : List Raw)
mutual
theorem Raw.indA {P : Raw → Prop} (h : ∀ k n l, (∀ d ∈ l, P d) → P (.mk k n l)) : ∀ d, P d
  | .mk k n l => h k n l (Raw.indB h l)
theorem Raw.indB {P : Raw → Prop} (h : ∀ k n l, (∀ d ∈ l, P d) → P (.mk k n l)) : ∀ l : List Raw, ∀ d ∈ l, P d
  | [], d, hd => by cases hd
  | e :: l, d, hd => by
    rcases List.mem_cons.1 hd with h1 | h1
    · rw [h1]; exact Raw.indA h e
    · exact Raw.indB h l d h1
end
def Raw.l : Raw → List Raw
  | .mk _ _ l => l
mutual
def Raw.cells : Raw → List AV
  | .mk k n l => [.int .i64 k, .int .i64 n, .L false 3 (Raw.cellsL l) l.length]
def Raw.cellsL : List Raw → List AV
  | [] => []
  | d :: ds => d.cells ++ Raw.cellsL ds
end
theorem Raw.cellsL_eq (l : List Raw) : Raw.cellsL l = l.flatMap Raw.cells := by
  induction l with
  | nil => rfl
  | cons d l ih => rw [Raw.cellsL, ih, List.flatMap_cons]
def vRaws (l : List Raw) : AV := vList false 3 Raw.cells l
theorem Raw.cells_mk (k n : Int) (l : List Raw) : (Raw.mk k n l).cells = [.int .i64 k, .int .i64 n, vRaws l] := by
  rw [Raw.cells, Raw.cellsL_eq]; rfl
theorem Raw.cells_len (d : Raw) : d.cells.length = 3 := by cases d; rw [Raw.cells_mk]; rfl
theorem Raw.still (d : Raw) : Still d.cells := by
  cases d
  rw [Raw.cells_mk]
  exact .cons (fun _ _ => shutC_int) (.cons (fun _ _ => shutC_int) (.cons (fun _ _ => shutC_vList) .nil))
/-! ### How many -/
end Go.Lite

/-
  Names that the maker makes.
-/
namespace Go.Lite
open Go Go.Proofs
end Go.Lite

/-
  How many a primitive takes.
-/
namespace Go.Lite
open Go Go.Proofs
def primT : List Str := [[43], [45], [42], [113, 117, 111, 116, 105, 101, 110, 116], [114, 101, 109, 97, 105, 110, 100, 101, 114], [60], [61], [101, 113, 63], [99, 111, 110, 115], [115, 101, 113], [99, 97, 114], [99, 100, 114], [110, 117, 108, 108, 63], [112, 97, 105, 114, 63], [110, 111, 116], [105, 110, 116, 101, 103, 101, 114, 63], [115, 121, 109, 98, 111, 108, 63], [101, 114, 114, 111, 114]]
def arityFrom (s : Str) : List Str → Nat → Int
  | [], _ => 0
  | p :: l, i => if (p == s) = true then (if i < 10 then 2 else 1) else arityFrom s l (i + 1)
def arityX (s : Str) : Int := arityFrom s primT 0
end Go.Lite

/-
  A list's beginning.
-/
namespace Go.Lite
open Go Go.Proofs
def onceAt (l : List Str) (i : Nat) (x : Str) : Bool := !((x == []) || (l.take i).any (· == x))
def OnceB (l : List Str) : Prop := ∀ i x, l[i]? = some x → onceAt l i x = true
end Go.Lite

/-
  Right terms, as the maker makes them.
-/
namespace Go.Lite
open Go Go.Proofs
/-! ### How many arguments are no atoms -/
/-! ### Norm's atoms, counts, sizes -/
/-! ### Names that are bound -/
mutual
def X.bnd : X → List Str
  | .mk _ _ ns l => ns ++ X.bnds l
def X.bnds : List X → List Str
  | [] => []
  | x :: l => x.bnd ++ X.bnds l
end
/-! ### What is right -/
def intT : List Str := [[48], [49], [50], [45, 51], [49, 48], [45, 53], [55], [49, 48, 48, 48, 48, 48, 48, 48, 48, 48, 48, 48, 48, 48, 48, 48, 48, 48, 48, 48, 48], [53]]
def shp (k : Int) (t : Str) (m n : Nat) : Prop :=
  (k = 1 ∧ t ∈ intT ∧ m = 0 ∧ n = 0) ∨ (k = 2 ∧ (t = [35, 116] ∨ t = [35, 102]) ∧ m = 0 ∧ n = 0) ∨ (k = 3 ∧ t = [] ∧ m = 0 ∧ n = 0) ∨ (k = 4 ∧ (t ≠ [] ∧ t.length ≤ 1000 ∧ ∀ c ∈ t, c < 256) ∧ m = 0 ∧ n = 0) ∨ (k = 5 ∧ t ≠ [] ∧ m = 0 ∧ n = 0) ∨
  (k = 6 ∧ t = [] ∧ 0 < m ∧ n = 1) ∨ (k = 7 ∧ t = [] ∧ m = 0 ∧ 2 ≤ n) ∨ (k = 8 ∧ t = [] ∧ m = 0 ∧ n = 3) ∨ (k = 9 ∧ t = [] ∧ 0 < m ∧ n = m + 1) ∨ (k = 10 ∧ 0 < arityX t ∧ (n : Int) = arityX t ∧ m = 0)
mutual
def X.right : X → Prop
  | .mk k t ns l => shp k t ns.length l.length ∧ OnceB ns ∧ X.rights l
def X.rights : List X → Prop
  | [] => True
  | x :: l => x.right ∧ X.rights l
end
/-! ### Names that are free -/
/-! ### As the maker makes them -/
end Go.Lite

/-
  A part that the maker makes: of a raw term's part; a name; a number.
-/
namespace Go.Lite
open Go Go.Proofs
end Go.Lite

/-
  The maker, one kind of a term after the other: rows of parts; applications; primitives.
-/
namespace Go.Lite
open Go Go.Proofs
end Go.Lite

/-
  The maker: primitives; choices; atoms.
-/
namespace Go.Lite
open Go Go.Proofs
end Go.Lite
