/-
  Two lists of one kind that grow side by side.
-/
import Derived.Test.YtibjdfajafilhaaLVal
namespace Go.Lite
open Go
set_option linter.unusedVariables false
set_option linter.unusedSimpArgs false

/-- no block of the one is one of the other -/
def Apart (v u : AV) : Prop := ∀ j o n c j' o' n' c', v = .slice (.new j) o n c → u = .slice (.new j') o' n' c' → j ≠ j'

theorem Apart.symm {v u : AV} (h : Apart v u) : Apart u v := fun j o n c j' o' n' c' h1 h2 e => h j' o' n' c' j o n c h2 h1 e.symm
theorem Apart.nils {u : AV} : Apart .nils u := fun j o n c j' o' n' c' h => by cases h
theorem Apart.lst {u : AV} {es n : Nat} {f : Bool} {cs : List AV} : Apart (.lst es n f cs) u := fun j o n c j' o' n' c' h => by cases h

theorem Acc.below {N : Nat} {H : Heap} {e es n : Nat} {cells : List AV} {v : AV} (h : Acc N H e es n cells v) (low : HLow H) {j o m : Nat} {c : Cap} (hv : v = .slice (.new j) o m c) : N ≤ j ∧ j < H.n := by
  rcases h with ⟨_, _, rfl⟩ | ⟨_, _, k, rfl, h3, h4⟩
  · cases hv
  · simp only [AV.slice.injEq, Blk.new.injEq] at hv
    obtain ⟨rfl, _⟩ := hv
    exact ⟨h3, low _ _ h4⟩

theorem Acc.fresh {N : Nat} {H : Heap} {e es n : Nat} {cells : List AV} {v : AV} (h : Acc N H e es n cells v) (low : HLow H) {k o m : Nat} {c : Cap} (hk : H.n ≤ k) : Apart (.slice (.new k) o m c) v := fun j o n c j' o' n' c' h1 h2 e => by
  simp only [AV.slice.injEq, Blk.new.injEq] at h1
  have := h.below low h2
  omega

/-- one more -/
theorem Acc.one_more {N : Nat} {H : Heap} {e es bs n : Nat} {cells ys : List AV} {v : AV} (h : Acc N H e es n cells v) (hN : N ≤ H.n) (hlow : HLow H) (hes : es ≠ 0) (hys : ys.length = es) (hfl : ys.all AV.flat = true) (hb : (n + 1) * bs ≤ 1099511627776 ∧ n + 1 ≤ 1099511627776) :
    ∃ H', appendOf e es bs H v (1, ys) = some (.slice (.new H.n) 0 (n + 1) (.gro es), H') ∧ Acc N H' e es (n + 1) (cells ++ ys) (.slice (.new H.n) 0 (n + 1) (.gro es)) ∧ HKeep (blk v) H H' ∧ HLow H' ∧ H'.n = H.n + 1 := by
  unfold appendOf
  rw [if_neg (by simp [hes, hfl])]
  rcases h with ⟨rfl, rfl, rfl⟩ | ⟨h1, h2, k, rfl, h5, h3⟩
  · simp only []
    rw [if_neg (by omega), if_pos (by simpa using hb)]
    exact ⟨_, rfl, .inr ⟨by omega, by simpa using hys, H.n, rfl, hN, by simp [Heap.fresh, h_get]⟩, HKeep.push hlow, hlow.push, by simp [Heap.fresh, h_n]⟩
  · simp only []
    rw [if_neg (by omega), if_pos hb]
    simp only [if_true, h3]
    rw [if_pos (by rw [h2]; simp)]
    have hty : tyKeep e 0 (some e) = some e := by simp [tyKeep]
    rw [hty]
    refine ⟨_, rfl, .inr ⟨by omega, by rw [List.length_append, h2, hys, Nat.add_mul, Nat.one_mul], H.n, rfl, hN, by simp [Heap.fresh, h_get, h_ndel]⟩, ⟨by simp only [Heap.fresh, h_n, h_ndel]; omega, fun j o hj ho => ?_, fun _ => (hlow.del).push⟩, (hlow.del).push, by simp [Heap.fresh, h_n, h_ndel]⟩
    have hne : j ≠ k := fun e => ho ⟨_, _, _, by rw [e]⟩
    show (((H.del k).push _).t.get j) = some o
    rw [h_get, h_ndel, if_neg (by have := hlow j o hj; omega), h_gdel, if_neg hne]
    exact hj

/-- what the other one does does not touch it -/
theorem Acc.beside {N N' : Nat} {H H' : Heap} {e es n e' es' n' : Nat} {cells cells' : List AV} {v u : AV} (h : Acc N H e es n cells v) (k : Acc N' H e' es' n' cells' u) (ha : Apart v u) (kp : HKeep (blk v) H H') : Acc N' H' e' es' n' cells' u := by
  refine k.keep fun j o hb hj => ?_
  rw [hj]
  refine kp.get j _ hj fun ⟨o2, n2, c2, e2⟩ => ?_
  obtain ⟨o1, n1, c1, e1⟩ := hb
  exact ha _ _ _ _ _ _ _ _ e2 e1 rfl

end Go.Lite
