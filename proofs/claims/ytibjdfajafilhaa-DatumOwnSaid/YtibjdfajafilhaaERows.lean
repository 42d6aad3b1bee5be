/-
  Raw data, as they stand in the world ahead of a call; a law's call, from the interpreter's run.
-/
import Derived.Test.YtibjdfajafilhaaLArgs
import Derived.Test.YtibjdfajafilhaaELawA
namespace Go.Lite
open Go Go.Proofs Go.RowKit
set_option linter.unusedVariables false
set_option linter.unusedSimpArgs false

theorem open_raws {H : Type} {enc : TypeId × Value → H} {P : Program} {W : World} {sp : Nat → Bool} {held : Bool} {t e : TypeId} {fs : Array Field} (ht : P.underlying t = some (.slice e)) (he : P.underlying e = some (.struct fs)) (hc : P.cellsOf e = 3)
    (hf0 : ∃ f, fs[0]? = some f ∧ f.offset = 0 ∧ P.underlying f.type = some (.int .i64) ∧ P.cellsOf f.type = 1) (hf1 : ∃ f, fs[1]? = some f ∧ f.offset = 1 ∧ P.underlying f.type = some (.int .i64) ∧ P.cellsOf f.type = 1)
    (hf2 : ∃ f, fs[2]? = some f ∧ f.offset = 2 ∧ f.type = t ∧ P.cellsOf f.type = 1) :
    ∀ (fuel : Nat) (u : Value) (x : DataW H × List MemPlace), DataW.trod enc P W 0 sp held fuel t [u] = some x →
    ∃ l : List Raw, (l.length ≤ 9223372036854775807 ∧ Raw.fits l) ∧ VRel (NB.of W.heap.size) (emb0 W) (vRaws l) u := by
  intro fuel
  induction fuel using Nat.strongRecOn with
  | _ fuel ih =>
    intro u x h
    rcases DataW.trod_slice ht h with ⟨h1, _⟩ | ⟨a, len, cap, elems, rest, n, hfu, h1, _, _, hl, hm, hlen, hel, _, _⟩
    · simp only [List.cons.injEq, and_true] at h1
      subst h1
      exact ⟨[], ⟨by simp, trivial⟩, slice_nil_rel⟩
    · simp only [List.cons.injEq, and_true] at h1
      subst h1
      rw [hc] at hel
      obtain ⟨l, h1, h2, h3⟩ := slice_rel (W := W) (g := Raw.cells) (F := Raw.fit) (es := 3) (by decide) Raw.cells_len hl fun i hi => by
        obtain ⟨y, hy⟩ : ∃ y, elems[i]? = some y := ⟨elems[i]'(by omega), List.getElem?_eq_getElem _⟩
        have := hel i hi
        rw [hy] at this
        obtain ⟨cs, hcs, hd⟩ := Option.bind_eq_some_iff.1 this
        obtain ⟨xs, m, hm, _, hcl, hxl, hfs⟩ := DataW.trod_struct he hd
        rw [hc] at hcl
        obtain ⟨c0, c1, c2, rfl⟩ : ∃ c0 c1 c2, cs = [c0, c1, c2] := by
          match cs, hcl with
          | [c0, c1, c2], _ => exact ⟨c0, c1, c2, rfl⟩
        obtain ⟨f0, g0, o0, u0, z0⟩ := hf0
        obtain ⟨f1, g1, o1, u1, z1⟩ := hf1
        obtain ⟨f2, g2, o2, u2, z2⟩ := hf2
        have q0 := hfs 0 f0 g0
        have q1 := hfs 1 f1 g1
        have q2 := hfs 2 f2 g2
        have hsz : xs.length = fs.size := hxl
        have l2 : 2 < fs.size := (Array.getElem?_eq_some_iff.1 g2).1
        rw [o0, z0, List.getElem?_eq_getElem (by omega)] at q0
        rw [o1, z1, List.getElem?_eq_getElem (by omega)] at q1
        rw [o2, z2, u2, List.getElem?_eq_getElem (by omega)] at q2
        simp only [List.drop_zero, List.take_succ_cons, List.take_zero, List.drop_succ_cons] at q0 q1 q2
        obtain ⟨k, hk, _, _⟩ := DataW.trod_int u0 q0
        obtain ⟨q, hq, _, _⟩ := DataW.trod_int u1 q1
        obtain ⟨l', ⟨w1, w2⟩, w3⟩ := ih m (by omega) c2 _ q2
        simp only [List.cons.injEq, and_true] at hk hq
        subst hk; subst hq
        refine ⟨_, .mk k q l', hcs, ?_, w1, w2⟩
        rw [Raw.cells_mk]
        simp only [VRels, VRel]
        exact ⟨_, _, rfl, rfl, _, _, rfl, rfl, _, _, rfl, w3, rfl⟩
      have hmx : maxLen = 9223372036854775807 := by decide
      exact ⟨l, ⟨by omega, (Raw.fits_iff l).2 h3⟩, h2⟩

theorem own2_ok (W : World) (hgl : (Try.prog).globals.size ≤ W.heap.size) : ∀ f g, own2 f = some g → OwnOk Try.prog (NB.of W.heap.size) f g := by
  intro f g h
  unfold own2 at h
  cases h1 : Nat.beq f 38 with
  | true =>
    rw [h1] at h
    simp only [cond_true, Option.some.injEq] at h
    subst h
    rw [Nat.eq_of_beq_eq_true h1]
    refine ownCheck_ok ?_
    intro t c o h
    simp only [lies2, Bool.and_eq_true] at h
    obtain ⟨⟨h1, h2⟩, h3⟩ := h
    rw [Nat.eq_of_beq_eq_true h1, Nat.eq_of_beq_eq_true h2, Nat.eq_of_beq_eq_true h3]
    exact ⟨by decide, by kernel_rfl⟩
  | false =>
    rw [h1] at h
    simp only [cond_false] at h
    cases h2 : Nat.beq f 32 with
    | true =>
      rw [h2] at h
      simp only [cond_true, Option.some.injEq] at h
      subst h
      rw [Nat.eq_of_beq_eq_true h2]
      exact ownString_ok
    | false =>
      rw [h2] at h
      simp only [cond_false] at h
      first
        | (cases h; done)
        | (cases h3 : Nat.beq f 33 with
           | true =>
             rw [h3] at h
             simp only [cond_true, Option.some.injEq] at h
             subst h
             rw [Nat.eq_of_beq_eq_true h3]
             exact ownClone_ok hgl (by kernel_rfl) (e := 30) (by decide) (fun own mode => code33 own mode)
           | false => rw [h3] at h; cases h)

theorem calls_of_ret {W : World} (hsh : W.ShapedOpen Try.prog) {f : Nat} {xs : List AV} {args : Array Value} (h : Ret P2 f xs (.bool true)) (hxs : VRels (NB.of W.heap.size) (emb0 W) xs args.toList) :
    Calls Try.prog f args W fun e w' => e = .returned (.bool true) ∧ Below W.heap.size W w' := by
  obtain ⟨N, hN⟩ := h
  exact row_run (globals_le hsh) (by kernel_rfl) (own2_ok W (globals_le hsh)) (hN N (Nat.le_refl _) heap0) hxs

end Go.Lite
