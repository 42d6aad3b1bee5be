/-
  Plain laws of data: what marks and their loss change, and what they do not.
-/
import Derived.Test.YtibjdfajafilhaaELawA
namespace Go.Lite
open Go
set_option linter.unusedSimpArgs false
set_option linter.unusedVariables false

theorem txts_congr {f : D → D} : ∀ l : List D, (∀ d ∈ l, (f d).txt = d.txt) → D.txts (l.map f) = D.txts l ∧ D.tails (l.map f) = D.tails l
  | [], _ => by simp [D.txts, D.tails]
  | d :: l, h => by
    have ih := txts_congr l fun e he => h e (by simp [he])
    have h1 := h d (by simp)
    simp only [List.map_cons, D.txts, D.tails, h1, ih.2, and_self]

theorem sizes_congr {f : D → D} : ∀ l : List D, (∀ d ∈ l, (f d).size = d.size) → D.sizes (l.map f) = D.sizes l
  | [], _ => by simp [D.sizes]
  | d :: l, h => by
    have ih := sizes_congr l fun e he => h e (by simp [he])
    simp only [List.map_cons, D.sizes, h d (by simp), ih]

theorem plain_facts : ∀ d : D, d.plain.txt = d.txt ∧ d.plain.size = d.size ∧ d.plain.bare = true ∧ (d.ok → d.plain.ok) ∧ (d.small → d.plain.small) ∧ d.plain.plain = d.plain := D.indA fun k t ms l a ih => by
  have h1 := txts_congr (f := D.plain) l fun d hd => (ih d hd).1
  have h2 := sizes_congr (f := D.plain) l fun d hd => (ih d hd).2.1
  rw [← plains_map] at h1 h2
  rw [D.plain]
  refine ⟨by rw [D.txt, D.txt, h1.1], by rw [D.size, D.size, h2], ?_, fun h => ?_, fun h => ?_, ?_⟩
  · rw [D.bare, D.bares_eq, plains_map]
    simp only [List.isEmpty_nil, Bool.true_and, List.all_eq_true, List.mem_map]
    rintro _ ⟨d, hd, rfl⟩
    exact (ih d hd).2.2.1
  · rw [D.ok, D.oks_iff] at h ⊢
    refine ⟨h.1, fun d hd => ?_⟩
    rw [plains_map] at hd
    obtain ⟨e, he, rfl⟩ := List.mem_map.1 hd
    exact (ih e he).2.2.2.1 (h.2 e he)
  · rw [D.small, D.smalls_iff] at h ⊢
    refine ⟨by simp, by rw [plains_len]; exact h.2.1, fun d hd => ?_⟩
    rw [plains_map] at hd
    obtain ⟨e, he, rfl⟩ := List.mem_map.1 hd
    exact (ih e he).2.2.2.2.1 (h.2.2 e he)
  · rw [D.plain]
    congr 1
    rw [plains_map, plains_map, List.map_map]
    exact List.map_congr_left fun d hd => (ih d hd).2.2.2.2.2

theorem zipAll_refl {α : Type} {p : α → α → Bool} : ∀ (l : List α), (∀ x ∈ l, p x x = true) → zipAll p l l = true
  | [], _ => rfl
  | x :: l, h => by rw [zipAll, h x (by simp), zipAll_refl l fun y hy => h y (by simp [hy])]; rfl

theorem D.same_refl : ∀ d : D, d.same d = true := D.indA fun k t ms l a ih => by
  rw [D.same, D.sames_eq, zipAll_refl ms fun x _ => by simp, zipAll_refl l ih]
  simp

theorem marked_facts (ns : List Int) : ∀ (d : D) (a : Nat), (d.marked ns a).1.txt = d.txt ∧ (d.marked ns a).1.size = d.size ∧ (d.ok → (d.marked ns a).1.ok) ∧ (d.small → (d.marked ns a).1.small) := D.indA fun k t ms l p ih a => by
  have hs : ∀ b, D.txts (D.markeds ns l b).1 = D.txts l ∧ D.tails (D.markeds ns l b).1 = D.tails l ∧ D.sizes (D.markeds ns l b).1 = D.sizes l ∧ (D.oks l → D.oks (D.markeds ns l b).1) ∧ (D.smalls l → D.smalls (D.markeds ns l b).1) := by
    induction l with
    | nil => intro b; simp [D.markeds]
    | cons d l ihl =>
      intro b
      obtain ⟨h1, h2, h3, h4⟩ := ih d (by simp) b
      obtain ⟨g1, g2, g3, g4, g5⟩ := ihl (fun e he => ih e (by simp [he])) (d.marked ns b).2
      rw [D.markeds]
      simp only [] at g1 g2 g3 g4 g5 ⊢
      refine ⟨by simp only [D.txts, h1, g2], by simp only [D.tails, h1, g2], by simp only [D.sizes, h2, g3], fun h => ⟨h3 h.1, g4 h.2⟩, fun h => ⟨h4 h.1, g5 h.2⟩⟩
  rw [D.marked]
  generalize hm : (if k = 3 then marksN ns 4 a else ([], a)) = M
  obtain ⟨h1, h2, h3, h4, h5⟩ := hs (M.2 + 1)
  have hM : M.1.length ≤ 4 := by
    rw [← hm]
    split
    · exact (marksN_le ns 4 a).2.2
    · simp
  simp only [] at h1 h2 h3 h4 h5 ⊢
  refine ⟨by rw [D.txt, D.txt, h1], by rw [D.size, D.size, h3], fun h => ?_, fun h => ?_⟩
  · rw [D.ok] at h ⊢
    exact ⟨h.1, h4 h.2⟩
  · rw [D.small] at h ⊢
    exact ⟨by omega, by rw [markeds_len]; exact h.2.1, h5 h.2.2⟩

end Go.Lite
