/-
  Several texts in one: TNMakeD, TNMakeE, TNMakeF, TNTerm.
-/
import Derived.Test.YtmfdlglhngmacaaGreatDoorUI

set_option linter.unusedSimpArgs false
set_option linter.unusedVariables false
set_option linter.defProp false
set_option maxRecDepth 100000

/-
  The maker: names that are bound; functions.
-/
namespace Go.Lite
open Go Go.Proofs
theorem NamesAt.one_more {N : Nat} {H : Heap} {ns : List Str} {u : AV} (h : NamesAt N H ns u) (hN : N ≤ H.n) (low : HLow H) (hb : ns.length ≤ 1048576) (s : Str) :
    ∃ H', appendOf 9 1 16 H u (1, [.str s]) = some (.slice (.new H.n) 0 (ns.length + 1) (.gro 1), H') ∧ Acc N H' 9 1 (ns.length + 1) ((ns ++ [s]).flatMap str1) (.slice (.new H.n) 0 (ns.length + 1) (.gro 1)) ∧ HKeep (blk u) H H' ∧ HLow H' ∧ H'.n = H.n + 1 := by
  rcases h with ⟨rfl, rfl⟩ | h
  · refine ⟨H.push (.row [.str s] 1 false (some 9)), ?_, .inr ⟨by omega, rfl, H.n, rfl, hN, by rw [h_get, if_pos rfl]; rfl⟩, HKeep.push low, low.push, h_n⟩
    unfold appendOf
    rw [if_neg (by simp [fl_str])]
    simp only []
    rw [if_neg (by omega), if_pos ⟨.inr trivial, trivial, by simp, by simp⟩]
    rfl
  · obtain ⟨H', h1, h2, h3, h4, h5⟩ := h.one_more (bs := 16) (ys := [.str s]) hN low (by decide) rfl rfl (by omega)
    exact ⟨H', h1, by rw [flat_snoc]; exact h2, h3, h4, h5⟩
end Go.Lite

/-
  The maker: functions.
-/
namespace Go.Lite
open Go Go.Proofs
theorem NamesAt.acc {N : Nat} {H : Heap} {ns : List Str} {u : AV} (h : NamesAt N H ns u) (hne : ns ≠ []) : Acc N H 9 1 ns.length (ns.flatMap str1) u := by
  rcases h with ⟨h, _⟩ | h
  · exact absurd h hne
  · exact h
theorem Acc.slice {N : Nat} {H : Heap} {e es n : Nat} {cells : List AV} {v : AV} (h : Acc N H e es n cells v) (hn : n ≠ 0) : ∃ k, v = .slice (.new k) 0 n (.gro es) ∧ N ≤ k ∧ H.t.get k = some (.row cells es false (some e)) := by
  rcases h with ⟨h, _⟩ | ⟨_, _, h⟩
  · exact absurd h hn
  · exact h
end Go.Lite

/-
  The maker: bindings.
-/
namespace Go.Lite
open Go Go.Proofs
end Go.Lite

/-
  The maker makes right terms; a closed term of raw ones.
-/
namespace Go.Lite
open Go Go.Proofs
end Go.Lite
