/-
  Several texts in one: TTame, TNor, TNorB, TLaw0, TLaw1, TRows, TLaid.
-/
import Derived.Test.YtmfdlglhngmacaaDoorVN
import Derived.Test.YtmfdlglhngmacaaDoorVL
import Derived.Test.YtmfdlglhngmacaaDoorVK
import Derived.Test.YtmfdlglhngmacaaDoorVI
import Derived.Test.YtmfdlglhngmacaaDoorVJ
import Derived.Test.YtmfdlglhngmacaaDoorVE
import Derived.Test.YtmfdlglhngmacaaDoorRows
import Derived.LaidLaws
import Derived.LaidSub
import Derived.Handed

set_option linter.unusedSimpArgs false
set_option linter.unusedVariables false
set_option linter.defProp false
set_option maxRecDepth 100000

/-
 What the maker makes is well formed, small; a name that is not there is not used.
-/
namespace Go.Lite
open Go Go.Proofs
theorem intT_num {t : Str} (h : t ∈ intT) : t.length ≤ 1000 ∧ ∃ z : Int, z.natAbs < 10 ^ 200 ∧ t = decZ z := by
 have pos : ∀ d : Str, Digs d → d ≠ [] → d[0]? ≠ some 48 → d.length ≤ 30 → d.length ≤ 1000 ∧ ∃ z : Int, z.natAbs < 10 ^ 200 ∧ d = decZ z := fun d h1 h2 h3 h4 => by
   have e := decN_of h1 h2 h3
   refine ⟨by omega, (dval d : Nat), ?_, by rw [decZ_nonneg, e]⟩
   have : dval d < 10 ^ 200 := (decN_len_le (by decide)).1 (by rw [e]; omega)
   simpa using this
 have neg : ∀ c : Nat, 48 < c → c ≤ 57 → ([45, c] : Str).length ≤ 1000 ∧ ∃ z : Int, z.natAbs < 10 ^ 200 ∧ ([45, c] : Str) = decZ z := fun c h1 h2 => by
   refine ⟨by simp, -((c - 48 : Nat) : Int), ?_, ?_⟩
   · have : (-((c - 48 : Nat) : Int)).natAbs ≤ 9 := by omega
     exact Nat.lt_of_le_of_lt this (by decide)
   · rw [decZ_neg (by omega), decN_small (by omega)]
     simp; omega
 simp only [intT, List.mem_cons, List.not_mem_nil, or_false] at h
 rcases h with rfl | rfl | rfl | rfl | rfl | rfl | rfl | rfl | rfl
 · exact ⟨by simp, 0, by decide, by rw [show (0 : Int) = ((0 : Nat) : Int) from rfl, decZ_nonneg, decN_small (by omega)]⟩
 · exact pos _ (by intro c hc; simp at hc; omega) (by simp) (by simp) (by simp)
 · exact pos _ (by intro c hc; simp at hc; omega) (by simp) (by simp) (by simp)
 · exact neg 51 (by decide) (by decide)
 · exact pos _ (by intro c hc; simp at hc; omega) (by simp) (by simp) (by simp)
 · exact neg 53 (by decide) (by decide)
 · exact pos _ (by intro c hc; simp at hc; omega) (by simp) (by simp) (by simp)
 · exact pos _ (by intro c hc; simp at hc; omega) (by simp) (by simp) (by simp)
 · exact pos _ (by intro c hc; simp at hc; omega) (by simp) (by simp) (by simp)
theorem arity_from (s : Str) : ∀ (l : List Str) (i : Nat), 0 < arityFrom s l i → s ∈ l ∧ arityFrom s l i ≤ 2
 | [], i, h => by simp [arityFrom] at h
 | p :: l, i, h => by
   rw [arityFrom] at h ⊢
   by_cases hp : (p == s) = true
   · rw [if_pos hp]
     have : p = s := by simpa using hp
     exact ⟨by simp [this], by split <;> omega⟩
   · rw [if_neg hp] at h ⊢
     obtain ⟨h1, h2⟩ := arity_from s l (i + 1) h
     exact ⟨by simp [h1], h2⟩
theorem shp_wf {k : Int} {t : Str} {ns : List Str} {l : List X} (h : shp k t ns.length l.length) (hl : X.wfs l) : (X.mk k t ns l).wf := by
 have ha : k = 10 → 0 < arityX t → arityX t ≤ 2 := fun _ h => (arity_from t primT 0 h).2
 rw [X.wf]
 refine ⟨?_, ?_, ?_, ?_, ?_, hl⟩
 · rintro rfl hl; subst hl; simp [shp] at h
 · rintro rfl hl; subst hl; simp [shp] at h
 · rintro rfl; simp [shp] at h; omega
 · rintro rfl; simp [shp] at h; omega
 · rintro rfl
   have ha := ha rfl
   simp [shp] at h
   omega
theorem right_wf : ∀ x : X, x.right → x.wf := X.indA fun k t ns l ih h => by
 obtain ⟨h1, _, h3⟩ := h
 exact shp_wf h1 ((X.wfs_iff l).2 fun x hx => ih x hx ((rights_iff l).1 h3 x hx))
theorem prim_len {t : Str} (h : 0 < arityX t) : t.length ≤ 1000 ∧ ∀ c ∈ t, c < 256 := by
 have := (arity_from t primT 0 h).1
 have key : ∀ t ∈ primT, t.length ≤ 1000 ∧ ∀ c ∈ t, c < 256 := by decide
 exact key t this
theorem shp_num {k : Int} {t : Str} {m n : Nat} (h : shp k t m n) (h5 : k = 5 → t.length ≤ 1000 ∧ ∀ c ∈ t, c < 256) : numOk k t := by
 unfold numOk
 rcases h with ⟨rfl, h, _⟩ | ⟨rfl, h, _⟩ | ⟨rfl, rfl, _⟩ | ⟨rfl, h, _⟩ | ⟨rfl, h, _⟩ | ⟨rfl, rfl, _⟩ | ⟨rfl, rfl, _⟩ | ⟨rfl, rfl, _⟩ | ⟨rfl, rfl, _⟩ | ⟨rfl, h, _⟩
 · obtain ⟨h1, z, h2, rfl⟩ := intT_num h
   exact ⟨⟨h1, decZ_byte z⟩, fun _ => ⟨z, h2, rfl⟩⟩
 · exact ⟨by rcases h with rfl | rfl <;> decide, fun h => absurd h (by decide)⟩
 · exact ⟨⟨by simp, by simp⟩, fun h => absurd h (by decide)⟩
 · exact ⟨h.2, fun h => absurd h (by decide)⟩
 · exact ⟨h5 rfl, fun h => absurd h (by decide)⟩
 · exact ⟨⟨by simp, by simp⟩, fun h => absurd h (by decide)⟩
 · exact ⟨⟨by simp, by simp⟩, fun h => absurd h (by decide)⟩
 · exact ⟨⟨by simp, by simp⟩, fun h => absurd h (by decide)⟩
 · exact ⟨⟨by simp, by simp⟩, fun h => absurd h (by decide)⟩
 · exact ⟨prim_len h, fun h => absurd h (by decide)⟩
mutual
def X.no (w : Str) : X → Prop
 | .mk k t _ l => (k = 5 → t ≠ w) ∧ X.nos w l
def X.nos (w : Str) : List X → Prop
 | [] => True
 | x :: l => x.no w ∧ X.nos w l
end
theorem X.nos_iff (w : Str) : ∀ (l : List X), X.nos w l ↔ ∀ x ∈ l, x.no w
 | [] => by simp [X.nos]
 | x :: l => by simp [X.nos, X.nos_iff w l]
theorem vdot_len (n : Nat) : (vdot n).length ≤ 10 := by
 have := numT_len n
 rw [vdot, List.length_append]
 simp only [List.length_cons, List.length_nil]; omega
theorem vdot_byte (n : Nat) (h : n ≤ 901) : ∀ c ∈ vdot n, c < 256 := by
 unfold vdot numT
 intro c hc
 rcases List.mem_append.1 hc with hc | hc
 · simp only [List.mem_cons, List.not_mem_nil, or_false] at hc
   omega
 · by_cases h1 : n < 10 <;> by_cases h2 : n < 100 <;> simp only [h1, h2, if_true, if_false, List.mem_cons, List.not_mem_nil, or_false] at hc <;> omega
theorem good_tame : ∀ (x : X) (sc : List Str) (m m' : Nat), x.good sc m m' → m' ≤ 900 → (∀ s ∈ sc, s.length ≤ 1000 ∧ ∀ c ∈ s, c < 256) → x.tame := X.indA fun k t ns l ih sc m m' h hm hs => by
 have hb := good_bnd _ sc m m' h
 obtain ⟨h1, h2, h3, h4, h5⟩ := h
 have key : ∀ (l : List X), (∀ x ∈ l, ∀ sc m m', x.good sc m m' → m' ≤ 900 → (∀ s ∈ sc, s.length ≤ 1000 ∧ ∀ c ∈ s, c < 256) → x.tame) → ∀ sc m m', X.goods l sc m m' → m' ≤ 900 → (∀ s ∈ sc, s.length ≤ 1000 ∧ ∀ c ∈ s, c < 256) → X.tames l ∧ m ≤ m' := by
   intro l
   induction l with
   | nil => intro _ sc m m' h _ _; rw [X.goods] at h; exact ⟨trivial, by omega⟩
   | cons x l ihl =>
     intro hx sc m m' h hm hs
     obtain ⟨m1, g1, g2⟩ := h
     obtain ⟨j1, j2⟩ := ihl (fun y hy => hx y (by simp [hy])) sc m1 m' g2 hm hs
     have := (good_bnd x sc m m1 g1).1
     exact ⟨⟨hx x (by simp) sc m m1 g1 (by omega) hs, j1⟩, by omega⟩
 rw [X.tame]
 have hnl : ns.length ≤ m' - m := by
   have e := hb.2
   rw [X.bnd] at e
   have := congrArg List.length e
   rw [vds_len, List.length_append] at this
   omega
 have hsn : ∀ s ∈ sc ++ ns, s.length ≤ 1000 ∧ ∀ c ∈ s, c < 256 := fun s hs' => by
   rcases List.mem_append.1 hs' with hs' | hs'
   · exact hs s hs'
   · rw [h4, vds, List.mem_map] at hs'
     obtain ⟨j, hj, rfl⟩ := hs'
     have := vdot_len j
     rw [List.mem_range'_1] at hj
     exact ⟨by omega, vdot_byte j (by omega)⟩
 exact ⟨shp_num h1 fun h => hs t (h3 h), by omega, by omega, (key l ih (sc ++ ns) _ m' h5 hm hsn).1⟩
theorem good_no (w : Str) (hw : ∀ j, vdot j ≠ w) : ∀ (x : X) (sc : List Str) (m m' : Nat), x.good sc m m' → (∀ s ∈ sc, s ≠ w) → x.no w := X.indA fun k t ns l ih sc m m' h hs => by
 obtain ⟨h1, h2, h3, h4, h5⟩ := h
 have key : ∀ (l : List X), (∀ x ∈ l, ∀ sc m m', x.good sc m m' → (∀ s ∈ sc, s ≠ w) → x.no w) → ∀ sc m m', X.goods l sc m m' → (∀ s ∈ sc, s ≠ w) → X.nos w l := by
   intro l
   induction l with
   | nil => intro _ sc m m' h _; trivial
   | cons x l ihl =>
     intro hx sc m m' h hs
     obtain ⟨m1, g1, g2⟩ := h
     exact ⟨hx x (by simp) sc m m1 g1 hs, ihl (fun y hy => hx y (by simp [hy])) sc m1 m' g2 hs⟩
 rw [X.no]
 refine ⟨fun h => hs t (h3 h), key l ih (sc ++ ns) _ m' h5 fun s hs' => ?_⟩
 rcases List.mem_append.1 hs' with hs' | hs'
 · exact hs s hs'
 · rw [h4, vds, List.mem_map] at hs'
   obtain ⟨j, hj, rfl⟩ := hs'
   exact hw j
end Go.Lite

/-
 A term, its arguments by name: a run of it beside a run of the term; what stands for what.
-/
namespace Go.Lite.Nor
open Go.Lite
def isPct (t : Str) : Prop := ∃ j, t = pct j
mutual
def cl : X → Prop
 | .mk k t _ l => (k = 5 → ¬ isPct t) ∧ (k = 10 → t = consP → l.length = 2) ∧ cls l
def cls : List X → Prop
 | [] => True
 | x :: l => cl x ∧ cls l
end
theorem cls_iff : ∀ (l : List X), cls l ↔ ∀ x ∈ l, cl x
 | [] => by simp [cls]
 | x :: l => by simp [cls, cls_iff l]
def RT (e e' : X) : Prop := ∃ c, (e.nrm c).1 = e'
def RTs : List X → List X → Prop
 | [], [] => True
 | x :: l, y :: m => RT x y ∧ RTs l m
 | _, _ => False
theorem RTs.len : ∀ {l m : List X}, RTs l m → m.length = l.length
 | [], [], _ => rfl
 | i :: l, j :: m, h => by simp [RTs.len h.2]
 | [], _ :: _, h => h.elim
 | _ :: _, [], h => h.elim
theorem RTs.get : ∀ {l m : List X} {i : Nat} {x : X}, RTs l m → l[i]? = some x → ∃ y, m[i]? = some y ∧ RT x y
 | [], [], i, x, _, h => by simp at h
 | a :: l, b :: m, 0, x, h, hx => by
   simp only [List.getElem?_cons_zero, Option.some.injEq] at hx
   subst hx
   exact ⟨b, rfl, h.1⟩
 | a :: l, b :: m, i + 1, x, h, hx => by
   simp only [List.getElem?_cons_succ] at hx ⊢
   exact RTs.get h.2 hx
 | [], _ :: _, _, _, h, _ => h.elim
 | _ :: _, [], _, _, h, _ => h.elim
theorem nrms_plain : ∀ (l : List X) (m i c : Nat), i + l.length ≤ m → (X.nrms l m i c).2.1 = [] ∧ RTs l (X.nrms l m i c).1
 | [], m, i, c, _ => ⟨rfl, trivial⟩
 | x :: l, m, i, c, h => by
   simp only [List.length_cons] at h
   have hc : ¬ (m ≤ i ∧ (x.nrm c).1.atom = false) := by omega
   obtain ⟨h1, h2⟩ := nrms_plain l m (i + 1) (x.nrm c).2 (by omega)
   rw [X.nrms, if_neg hc]
   exact ⟨h1, ⟨c, rfl⟩, h2⟩
theorem nrm_none {k : Int} {t : Str} {ns : List Str} {a : List X} {c : Nat} (h : must k t = none) : ∃ a', ((X.mk k t ns a).nrm c).1 = .mk k t ns a' ∧ RTs a a' := by
 rw [X.nrm, h]
 simp only [Option.getD_none]
 obtain ⟨h1, h2⟩ := nrms_plain a a.length 0 c (by omega)
 rw [h1]
 exact ⟨_, rfl, h2⟩
theorem atom_nrm (x : X) (c : Nat) : (x.nrm c).1.atom = x.atom := by
 obtain ⟨k, t, ns, a⟩ := x
 cases h : must k t with
 | none =>
   obtain ⟨a', e, _⟩ := nrm_none (ns := ns) (a := a) (c := c) h
   rw [e]; rfl
 | some m =>
   have hk : (X.mk k t ns a).atom = false := by
     unfold must at h
     simp only [X.atom, atomK]
     split at h
     · rename_i h7; subst h7; decide
     · split at h
       · rename_i h10; obtain ⟨rfl, _⟩ := h10; decide
       · cases h
   rw [hk, X.nrm]
   cases (X.nrms a ((must k t).getD a.length) 0 c).2.1 with
   | nil => exact hk
   | cons p l => rfl
def PS : List X → List X → List (Str × X) → Prop
 | [], [], L => L = []
 | x :: l, x' :: l', L => (x.atom = true ∧ RT x x' ∧ PS l l' L) ∨ (x.atom = false ∧ ∃ y n L', L = (n, y) :: L' ∧ x' = varX n ∧ RT x y ∧ PS l l' L')
 | _, _, _ => False
theorem nrms_parted : ∀ (l : List X) (m i c : Nat), m ≤ i → PS l (X.nrms l m i c).1 (X.nrms l m i c).2.1 ∧ (∀ p ∈ (X.nrms l m i c).2.1, ∃ j, p.1 = pct j ∧ c < j) ∧ ((X.nrms l m i c).2.1.map (·.1)).Nodup
 | [], m, i, c, _ => ⟨rfl, by simp [X.nrms], by simp [X.nrms]⟩
 | x :: l, m, i, c, h => by
   have hx := nrm_le x c
   rw [X.nrms]
   cases ha : (x.nrm c).1.atom with
   | true =>
     obtain ⟨h1, h2, h3⟩ := nrms_parted l m (i + 1) (x.nrm c).2 (by omega)
     rw [if_neg (by simp)]
     refine ⟨.inl ⟨by rw [← atom_nrm x c]; exact ha, ⟨c, rfl⟩, h1⟩, fun p hp => ?_, h3⟩
     obtain ⟨j, e, hj⟩ := h2 p hp
     exact ⟨j, e, by omega⟩
   | false =>
     obtain ⟨h1, h2, h3⟩ := nrms_parted l m (i + 1) ((x.nrm c).2 + 1) (by omega)
     rw [if_pos ⟨h, rfl⟩]
     refine ⟨.inr ⟨by rw [← atom_nrm x c]; exact ha, _, _, _, rfl, rfl, ⟨c, rfl⟩, h1⟩, fun p hp => ?_, ?_⟩
     · rcases List.mem_cons.1 hp with rfl | hp
       · exact ⟨_, rfl, by omega⟩
       · obtain ⟨j, e, hj⟩ := h2 p hp
         exact ⟨j, e, by omega⟩
     · simp only [List.map_cons, List.nodup_cons]
       refine ⟨fun hm => ?_, h3⟩
       obtain ⟨p, hp, e⟩ := List.mem_map.1 hm
       obtain ⟨j, e2, hj⟩ := h2 p hp
       have : j = (x.nrm c).2 + 1 := by
         have e3 := e2.symm.trans e
         exact pct_inj e3
       omega
def EnvN (r : List Nat) (env env' : Env) : Prop := ∀ t, ¬ isPct t → (∀ p, env.find? (fun p => p.1 == t) = some p → ∃ p', env'.find? (fun p => p.1 == t) = some p' ∧ r[p.2]? = some p'.2) ∧ (env.find? (fun p => p.1 == t) = none → env'.find? (fun p => p.1 == t) = none)
def LisN (r : List Nat) : List Nat → List Nat → Prop
 | [], [] => True
 | i :: l, j :: m => r[i]? = some j ∧ LisN r l m
 | _, _ => False
def ValN (r : List Nat) : V → V → Prop
 | .atom k t, v => v = .atom k t
 | .pair a b, v => ∃ a' b', v = .pair a' b' ∧ r[a]? = some a' ∧ r[b]? = some b'
 | .fn (.mk k t ns a) env g, v => ∃ a' env' g', v = .fn (.mk k t ns a') env' g' ∧ RTs a a' ∧ cls a ∧ EnvN r env env' ∧ LisN r g g'
def CellN (r : List Nat) : C → C → Prop
 | .wait e env, c => ∃ e' env', c = .wait e' env' ∧ RT e e' ∧ cl e ∧ EnvN r env env'
 | .busy e env, c => ∃ e' env', c = .busy e' env' ∧ RT e e' ∧ cl e ∧ EnvN r env env'
 | .done v, c => ∃ v', c = .done v' ∧ ValN r v v'
structure StN (M : Nat) (cs : List C) (r : List Nat) (s s' : S) : Prop where
 len : r.length = s.cells.length
 nodup : r.Nodup
 low : ∀ j ∈ r, j < s'.cells.length
 cells : ∀ (i j : Nat) (c : C), r[i]? = some j → s.cells[i]? = some c → ∃ c', s'.cells[j]? = some c' ∧ CellN r c c'
 big : M ≤ s'.cells.length
 kept : ∀ j, j < M → j ∉ r → s'.cells[j]? = cs[j]?
def NF {α : Type} : O α → Prop
 | .val _ _ => False
 | .stop k _ _ => k = 6
def OutN (M : Nat) (cs : List C) (r : List Nat) {α : Type} (A : List Nat → α → α → Prop) : O α → O α → Prop
 | .val v s, o => ∃ x v' s', o = .val v' s' ∧ (∀ j ∈ x, M ≤ j) ∧ A (r ++ x) v v' ∧ StN M cs (r ++ x) s s'
 | .stop k t s, o => ∃ s', o = .stop k t s'
theorem get_more {r x : List Nat} {i j : Nat} (h : r[i]? = some j) : (r ++ x)[i]? = some j := by
 rw [List.getElem?_append_left (List.getElem?_eq_some_iff.1 h).1]; exact h
theorem EnvN.more {r x : List Nat} {env env' : Env} (h : EnvN r env env') : EnvN (r ++ x) env env' := fun t ht => ⟨fun p hp => by
 obtain ⟨p', h1, h2⟩ := (h t ht).1 p hp
 exact ⟨p', h1, get_more h2⟩, (h t ht).2⟩
theorem LisN.more {r x : List Nat} : ∀ {l m : List Nat}, LisN r l m → LisN (r ++ x) l m
 | [], [], _ => trivial
 | i :: l, j :: m, h => ⟨get_more h.1, LisN.more h.2⟩
 | [], _ :: _, h => h.elim
 | _ :: _, [], h => h.elim
theorem LisN.len {r : List Nat} : ∀ {l m : List Nat}, LisN r l m → m.length = l.length
 | [], [], _ => rfl
 | i :: l, j :: m, h => by simp [LisN.len h.2]
 | [], _ :: _, h => h.elim
 | _ :: _, [], h => h.elim
theorem LisN.append {r : List Nat} : ∀ {l m l' m' : List Nat}, LisN r l m → LisN r l' m' → LisN r (l ++ l') (m ++ m')
 | [], [], _, _, _, h => h
 | i :: l, j :: m, _, _, h, h' => ⟨h.1, LisN.append h.2 h'⟩
 | [], _ :: _, _, _, h, _ => h.elim
 | _ :: _, [], _, _, h, _ => h.elim
theorem LisN.take {r : List Nat} : ∀ {l m : List Nat} (n : Nat), LisN r l m → LisN r (l.take n) (m.take n)
 | _, _, 0, _ => by simp [LisN]
 | [], [], n + 1, _ => by simp [LisN]
 | i :: l, j :: m, n + 1, h => ⟨h.1, LisN.take n h.2⟩
 | [], _ :: _, _ + 1, h => h.elim
 | _ :: _, [], _ + 1, h => h.elim
theorem LisN.drop {r : List Nat} : ∀ {l m : List Nat} (n : Nat), LisN r l m → LisN r (l.drop n) (m.drop n)
 | _, _, 0, h => by simpa using h
 | [], [], n + 1, _ => by simp [LisN]
 | i :: l, j :: m, n + 1, h => by simpa using LisN.drop n h.2
 | [], _ :: _, _ + 1, h => h.elim
 | _ :: _, [], _ + 1, h => h.elim
theorem ValN.more {r x : List Nat} {v v' : V} (h : ValN r v v') : ValN (r ++ x) v v' := by
 cases v with
 | atom k t => exact h
 | pair a b => obtain ⟨a', b', rfl, h1, h2⟩ := h; exact ⟨a', b', rfl, get_more h1, get_more h2⟩
 | fn e env g =>
   obtain ⟨k, t, ns, a⟩ := e
   obtain ⟨a', env', g', rfl, h0, h1, h2, h3⟩ := h
   exact ⟨a', env', g', rfl, h0, h1, h2.more, h3.more⟩
theorem CellN.more {r x : List Nat} {c c' : C} (h : CellN r c c') : CellN (r ++ x) c c' := by
 cases c with
 | wait e env => obtain ⟨e', env', rfl, h0, h1, h2⟩ := h; exact ⟨e', env', rfl, h0, h1, h2.more⟩
 | busy e env => obtain ⟨e', env', rfl, h0, h1, h2⟩ := h; exact ⟨e', env', rfl, h0, h1, h2.more⟩
 | done v => obtain ⟨v', rfl, h1⟩ := h; exact ⟨v', rfl, h1.more⟩
theorem ValN.kind {r : List Nat} {v v' : V} (h : ValN r v v') : v'.kind = v.kind ∧ v'.text = v.text := by
 cases v with
 | atom k t => rw [h]; exact ⟨rfl, rfl⟩
 | pair a b => obtain ⟨a', b', rfl, _⟩ := h; exact ⟨rfl, rfl⟩
 | fn e env g => obtain ⟨k, t, ns, a⟩ := e; obtain ⟨_, env', g', rfl, _⟩ := h; exact ⟨rfl, rfl⟩
theorem StN.app {M : Nat} {cs : List C} {r : List Nat} {s s' : S} (h : StN M cs r s s') {q q' : List C} (hl : q'.length = q.length)
   (hc : ∀ (i : Nat) (c : C), q[i]? = some c → ∃ c', q'[i]? = some c' ∧ CellN (r ++ List.range' s'.cells.length q.length) c c') : StN M cs (r ++ List.range' s'.cells.length q.length) (s.more q) (s'.more q') where
 len := by simp [S.more, h.len]
 nodup := by
   rw [List.nodup_append]
   refine ⟨h.nodup, List.nodup_range', ?_⟩
   intro a ha b hb e
   have := h.low a ha
   rw [List.mem_range'_1] at hb
   omega
 low := by
   intro j hj
   simp only [S.more, List.length_append, hl]
   rcases List.mem_append.1 hj with hj | hj
   · have := h.low j hj; omega
   · rw [List.mem_range'_1] at hj; omega
 cells := by
   intro i j c0 hj hi
   simp only [S.more] at hi ⊢
   by_cases hil : i < s.cells.length
   · rw [List.getElem?_append_left (by rw [h.len]; exact hil)] at hj
     rw [List.getElem?_append_left hil] at hi
     obtain ⟨c1, h1, h2⟩ := h.cells i j c0 hj hi
     exact ⟨c1, by rw [List.getElem?_append_left (List.getElem?_eq_some_iff.1 h1).1]; exact h1, h2.more⟩
   · rw [List.getElem?_append_right (by rw [h.len]; omega), h.len] at hj
     rw [List.getElem?_append_right (by omega)] at hi
     have hxl : i - s.cells.length < q.length := (List.getElem?_eq_some_iff.1 hi).1
     rw [List.getElem?_range' hxl] at hj
     simp only [Nat.one_mul, Option.some.injEq] at hj
     subst hj
     obtain ⟨c', h1, h2⟩ := hc _ _ hi
     refine ⟨c', ?_, h2⟩
     rw [List.getElem?_append_right (by omega), Nat.add_sub_cancel_left]; exact h1
 big := by simp only [S.more, List.length_append]; have := h.big; omega
 kept := by
   intro j hj hn
   simp only [S.more]
   have := h.big
   rw [List.getElem?_append_left (by omega)]
   exact h.kept j hj fun hr => hn (List.mem_append_left _ hr)
theorem StN.new {M : Nat} {cs : List C} {r : List Nat} {s s' : S} {c c' : C} (h : StN M cs r s s') (hc : CellN (r ++ [s'.cells.length]) c c') : StN M cs (r ++ [s'.cells.length]) (s.new c).2 (s'.new c').2 := by
 refine h.app (q := [c]) (q' := [c']) rfl fun i c0 hi => ?_
 have hi0 : i = 0 := by
   have := (List.getElem?_eq_some_iff.1 hi).1
   simp at this; omega
 subst hi0
 simp only [List.getElem?_cons_zero, Option.some.injEq] at hi
 subst hi
 exact ⟨c', rfl, hc⟩
theorem StN.meet {M : Nat} {cs : List C} {r : List Nat} {s s' : S} {c c' : C} {j : Nat} (h : StN M cs r s s') (hj : s'.cells[j]? = some c') (hn : j ∉ r) (hM : M ≤ j) (hc : CellN (r ++ [j]) c c') : StN M cs (r ++ [j]) (s.new c).2 s' where
 len := by simp [S.new, h.len]
 nodup := by
   rw [List.nodup_append]
   refine ⟨h.nodup, by simp, ?_⟩
   intro a ha b hb e
   simp only [List.mem_singleton] at hb
   subst hb e
   exact hn ha
 low := by
   intro i hi
   rcases List.mem_append.1 hi with hi | hi
   · exact h.low i hi
   · simp only [List.mem_singleton] at hi
     subst hi
     exact (List.getElem?_eq_some_iff.1 hj).1
 cells := by
   intro i j' c0 hj' hi
   simp only [S.new] at hi
   by_cases hl : i < s.cells.length
   · rw [List.getElem?_append_left (by rw [h.len]; exact hl)] at hj'
     rw [List.getElem?_append_left hl] at hi
     obtain ⟨c1, h1, h2⟩ := h.cells i j' c0 hj' hi
     exact ⟨c1, h1, h2.more⟩
   · have hi' : i = s.cells.length := by
       have := (List.getElem?_eq_some_iff.1 hi).1
       simp at this; omega
     subst hi'
     rw [← h.len] at hj'
     simp at hj' hi
     subst hj' hi
     exact ⟨c', hj, hc⟩
 big := h.big
 kept := fun i hi hn' => h.kept i hi fun hr => hn' (List.mem_append_left _ hr)
theorem StN.set {M : Nat} {cs : List C} {r : List Nat} {i j : Nat} {s s' : S} {c c' : C} (h : StN M cs r s s') (hj : r[i]? = some j) (hc : CellN r c c') : StN M cs r (s.set i c) (s'.set j c') where
 len := by simp [S.set, h.len]
 nodup := h.nodup
 low := by simpa [S.set] using h.low
 cells := by
   intro a b c0 hb ha
   simp only [S.set] at ha ⊢
   rw [List.getElem?_set] at ha
   by_cases hai : i = a
   · subst hai
     rw [hj] at hb
     simp only [Option.some.injEq] at hb
     subst hb
     have hjl : j < s'.cells.length := h.low j (List.mem_of_getElem? hj)
     rw [if_pos rfl] at ha
     split at ha
     · simp only [Option.some.injEq] at ha
       subst ha
       exact ⟨c', by simp [hjl], hc⟩
     · cases ha
   · rw [if_neg hai] at ha
     obtain ⟨c1, h1, h2⟩ := h.cells a b c0 hb ha
     have hne : j ≠ b := by
       rintro rfl
       exact hai ((List.getElem?_inj (List.getElem?_eq_some_iff.1 hj).1 h.nodup).1 (hj.trans hb.symm))
     exact ⟨c1, by rw [List.getElem?_set_ne hne]; exact h1, h2⟩
 big := by simpa [S.set] using h.big
 kept := by
   intro a ha hn
   simp only [S.set]
   have hne : j ≠ a := by
     rintro rfl
     exact hn (List.mem_of_getElem? hj)
   rw [List.getElem?_set_ne hne]
   exact h.kept a ha hn
theorem StN.tick {M : Nat} {cs : List C} {r : List Nat} {s s' : S} (h : StN M cs r s s') : StN M cs r s.tick s'.tick := ⟨h.len, h.nodup, h.low, h.cells, h.big, h.kept⟩
theorem StN.tick1 {M : Nat} {cs : List C} {r : List Nat} {s s' : S} (h : StN M cs r s s') : StN M cs r s.tick s' := ⟨h.len, h.nodup, h.low, h.cells, h.big, h.kept⟩
theorem StN.used {M : Nat} {cs : List C} {r : List Nat} {s s' : S} (h : StN M cs r s s') : StN M cs r s.used s'.used := ⟨h.len, h.nodup, h.low, h.cells, h.big, h.kept⟩
theorem StN.early {M : Nat} {cs : List C} {r : List Nat} {s s' s2 : S} {q : List C} (h : StN M cs r s s') (hq : s2.cells = s'.cells ++ q) : StN M cs r s s2 where
 len := h.len
 nodup := h.nodup
 low := fun j hj => by rw [hq, List.length_append]; have := h.low j hj; omega
 cells := fun i j c hj hi => by
   obtain ⟨c', h1, h2⟩ := h.cells i j c hj hi
   exact ⟨c', by rw [hq, List.getElem?_append_left (List.getElem?_eq_some_iff.1 h1).1]; exact h1, h2⟩
 big := by rw [hq, List.length_append]; have := h.big; omega
 kept := fun j hj hn => by
   have := h.big
   rw [hq, List.getElem?_append_left (by omega)]
   exact h.kept j hj hn
theorem StN.rebase {M : Nat} {cs : List C} {r : List Nat} {s s' : S} (h : StN M cs r s s') : StN s'.cells.length s'.cells r s s' := ⟨h.len, h.nodup, h.low, h.cells, Nat.le_refl _, fun _ _ _ => rfl⟩
theorem StN.back {M : Nat} {cs : List C} {r x : List Nat} {s s' s2 s2' : S} (h : StN M cs r s s') (h2 : StN s'.cells.length s'.cells (r ++ x) s2 s2') : StN M cs (r ++ x) s2 s2' :=
 ⟨h2.len, h2.nodup, h2.low, h2.cells, Nat.le_trans h.big h2.big, fun j hj hn => by
   rw [h2.kept j (Nat.lt_of_lt_of_le hj h.big) hn]
   exact h.kept j hj fun hr => hn (List.mem_append_left _ hr)⟩
theorem EnvN.cons {r : List Nat} {env env' : Env} {n : Str} {i j : Nat} (h : EnvN r env env') (hj : r[i]? = some j) : EnvN r ((n, i) :: env) ((n, j) :: env') := by
 intro t ht
 by_cases hn : (n == t) = true
 · refine ⟨fun p hp => ?_, fun hp => ?_⟩
   · rw [List.find?_cons, hn] at hp
     simp only [Option.some.injEq] at hp
     subst hp
     exact ⟨(n, j), by rw [List.find?_cons, hn], hj⟩
   · rw [List.find?_cons, hn] at hp; cases hp
 · have hn : (n == t) = false := by simpa using hn
   have e1 : ((n, i) :: env).find? (fun p => p.1 == t) = env.find? (fun p => p.1 == t) := by rw [List.find?_cons, hn]
   have e2 : ((n, j) :: env').find? (fun p => p.1 == t) = env'.find? (fun p => p.1 == t) := by rw [List.find?_cons, hn]
   rw [e1, e2]; exact h t ht
theorem EnvN.pct {r : List Nat} {env env' : Env} {n : Str} {j : Nat} (h : EnvN r env env') (hn : isPct n) : EnvN r env ((n, j) :: env') := by
 intro t ht
 have hn : (n == t) = false := by
   simp only [beq_eq_false_iff_ne, ne_eq]
   rintro rfl
   exact ht hn
 have e2 : ((n, j) :: env').find? (fun p => p.1 == t) = env'.find? (fun p => p.1 == t) := by rw [List.find?_cons, hn]
 rw [e2]; exact h t ht
theorem EnvN.zip {r : List Nat} : ∀ {ns : List Str} {g g' : List Nat} {env env' : Env}, EnvN r env env' → LisN r g g' → EnvN r ((ns.zip g).reverse ++ env) ((ns.zip g').reverse ++ env')
 | [], g, g', env, env', h, _ => by simpa using h
 | n :: ns, [], [], env, env', h, _ => by simpa using h
 | n :: ns, i :: g, j :: g', env, env', h, hl => by
   simp only [List.zip_cons_cons, List.reverse_cons, List.append_assoc, List.singleton_append]
   exact EnvN.zip (h.cons hl.1) hl.2
 | n :: ns, [], _ :: _, env, env', h, hl => hl.elim
 | n :: ns, _ :: _, [], env, env', h, hl => hl.elim
theorem letEnv_n : ∀ {ns : List Str} {i j : Nat} {r : List Nat} {env env' : Env}, EnvN r env env' → (∀ m, m < ns.length → r[i + m]? = some (j + m)) → EnvN r (letEnv ns i env) (letEnv ns j env')
 | [], i, j, r, env, env', h, _ => h
 | n :: ns, i, j, r, env, env', h, hr => by
   rw [letEnv, letEnv]
   refine letEnv_n (h.cons (by have := hr 0 (by simp); simpa using this)) fun m hm => ?_
   have := hr (m + 1) (by simp; omega)
   rw [show i + 1 + m = i + (m + 1) by omega, show j + 1 + m = j + (m + 1) by omega]; exact this
def NewN (M : Nat) (cs : List C) (r : List Nat) (N : Nat) (q q' : Nat × S) : Prop := ∃ x, (∀ j ∈ x, N ≤ j) ∧ (r ++ x)[q.1]? = some q'.1 ∧ StN M cs (r ++ x) q.2 q'.2
theorem new_n {M : Nat} {cs : List C} {r : List Nat} {s s' : S} {c c' : C} (h : StN M cs r s s') (hc : CellN r c c') : NewN M cs r s'.cells.length (s.new c) (s'.new c') := by
 refine ⟨[s'.cells.length], by simp, ?_, h.new hc.more⟩
 show (r ++ [s'.cells.length])[s.cells.length]? = some s'.cells.length
 rw [← h.len]; simp
theorem look_n {M : Nat} {cs : List C} {r : List Nat} {s s' : S} {env env' : Env} {t : Str} (h : StN M cs r s s') (he : EnvN r env env') (ht : ¬ isPct t) : NewN M cs r s'.cells.length (lookA env t s) (lookA env' t s') := by
 obtain ⟨h1, h2⟩ := he t ht
 unfold lookA
 cases hf : env.find? (fun p => p.1 == t) with
 | some p =>
   obtain ⟨p', e1, e2⟩ := h1 p hf
   rw [e1]
   exact ⟨[], by simp, by simpa using e2, by simpa using h⟩
 | none =>
   rw [h2 hf]
   exact new_n h ⟨_, rfl, rfl⟩
theorem look_more (env : Env) (t : Str) (s : S) : ∃ q, (lookA env t s).2.cells = s.cells ++ q := by
 unfold lookA; split
 · exact ⟨[], by simp⟩
 · exact ⟨_, rfl⟩
theorem arg_more (e : X) (env : Env) (s : S) : ∃ q, (argA e env s).2.cells = s.cells ++ q := by
 obtain ⟨k, t, ns, l⟩ := e
 unfold argA
 simp only []
 split
 · exact look_more _ _ _
 split
 · exact ⟨_, rfl⟩
 · exact ⟨_, rfl⟩
theorem atom_arg {M : Nat} {cs : List C} {r : List Nat} {s s' : S} {env env' : Env} {e e' : X} (h : StN M cs r s s') (he : EnvN r env env') (ha : e.atom = true) (hr : RT e e') (hc : cl e) : NewN M cs r s'.cells.length (argA e env s) (argA e' env' s') := by
 obtain ⟨k, t, ns, l⟩ := e
 have hm : must k t = none := by
   simp only [X.atom] at ha
   rcases atomK_cases k with ⟨_, h⟩ | ⟨h, _⟩
   · unfold must
     rw [if_neg (by omega), if_neg (by omega)]
   · rw [h] at ha; cases ha
 obtain ⟨c, rfl⟩ := hr
 obtain ⟨a', e1, _⟩ := nrm_none (ns := ns) (a := l) (c := c) hm
 rw [e1]
 unfold argA
 simp only []
 by_cases h5 : k = 5
 · rw [if_pos h5, if_pos h5]; exact look_n h he (hc.1 h5)
 rw [if_neg h5, if_neg h5]
 by_cases h14 : 1 ≤ k ∧ k ≤ 4
 · rw [if_pos h14, if_pos h14]
   refine new_n h ⟨_, rfl, ?_⟩
   unfold constV
   repeat' split
   all_goals rfl
 · exfalso
   simp only [X.atom] at ha
   rcases atomK_cases k with ⟨_, h⟩ | ⟨h, _⟩
   · omega
   · rw [h] at ha; cases ha
def Early (r : List Nat) (env env' : Env) (s' : S) : List X → List X → List Nat → Prop
 | [], [], J => J = []
 | x :: l, x' :: l', J => (x.atom = true ∧ RT x x' ∧ Early r env env' s' l l' J) ∨ (x.atom = false ∧ ∃ j J' n y env2, J = j :: J' ∧ x' = varX n ∧ (∃ m, env'.find? (fun p => p.1 == n) = some (m, j)) ∧ s'.cells[j]? = some (.wait y env2) ∧ RT x y ∧ EnvN r env env2 ∧ Early r env env' s' l l' J')
 | _, _, _ => False
theorem Early.keep {r x : List Nat} {env env' : Env} {s s' : S} : ∀ {l l' : List X} {J : List Nat}, (∀ j ∈ J, ∀ c, s.cells[j]? = some c → s'.cells[j]? = some c) → Early r env env' s l l' J → Early (r ++ x) env env' s' l l' J
 | [], [], J, _, h => h
 | a :: l, a' :: l', J, hs, h => by
   rcases h with ⟨h1, h2, h3⟩ | ⟨h1, j, J', n, y, env2, rfl, h3, h4, h5, h6, h7, h8⟩
   · exact .inl ⟨h1, h2, h3.keep hs⟩
   · exact .inr ⟨h1, j, J', n, y, env2, rfl, h3, h4, hs j (by simp) _ h5, h6, h7.more, h8.keep fun j hj => hs j (by simp [hj])⟩
 | [], _ :: _, _, _, h => h.elim
 | _ :: _, [], _, _, h => h.elim
theorem args_n {M : Nat} {cs : List C} {env env' : Env} : ∀ {l l' : List X} {J : List Nat} {r : List Nat} {s s' : S}, StN M cs r s s' → EnvN r env env' → cls l → Early r env env' s' l l' J → J.Nodup → (∀ j ∈ J, j ∉ r ∧ M ≤ j) →
   ∃ x, (∀ j ∈ x, M ≤ j) ∧ LisN (r ++ x) (argsA env l s).1 (argsA env' l' s').1 ∧ StN M cs (r ++ x) (argsA env l s).2 (argsA env' l' s').2
 | [], [], J, r, s, s', h, _, _, _, _, _ => ⟨[], by simp, trivial, by simpa [argsA] using h⟩
 | e :: l, e' :: l', J, r, s, s', h, he, hc, hE, hJ, hJr => by
   rcases hE with ⟨h1, h2, h3⟩ | ⟨h1, j, J', n, y, env2, rfl, rfl, ⟨m, h4⟩, h5, h6, h7, h8⟩
   · obtain ⟨x, x1, x2, x3⟩ := atom_arg h he h1 h2 hc.1
     obtain ⟨q, hq⟩ := arg_more e' env' s'
     have hJlt : ∀ (l l' : List X) (J : List Nat), Early r env env' s' l l' J → ∀ j ∈ J, j < s'.cells.length := by
       intro l
       induction l with
       | nil => intro l' J h; cases l' with
         | nil => intro j hj; rw [show J = [] from h] at hj; cases hj
         | cons a b => exact h.elim
       | cons a l ih =>
         intro l' J h
         cases l' with
         | nil => exact h.elim
         | cons a' l' =>
           rcases h with ⟨_, _, h⟩ | ⟨_, j, J', n, y, env2, rfl, _, _, h5, _, _, h8⟩
           · exact ih l' J h
           · intro i hi
             rcases List.mem_cons.1 hi with rfl | hi
             · exact (List.getElem?_eq_some_iff.1 h5).1
             · exact ih l' J' h8 i hi
     have hlt := hJlt l l' J h3
     have hdis : ∀ j ∈ J, j ∉ r ++ x ∧ M ≤ j := fun j hj => by
       refine ⟨fun hr => ?_, (hJr j hj).2⟩
       rcases List.mem_append.1 hr with hr | hr
       · exact (hJr j hj).1 hr
       · have := x1 j hr
         have := hlt j hj
         omega
     obtain ⟨y, y1, y2, y3⟩ := args_n (l := l) (l' := l') (J := J) x3 he.more hc.2 (h3.keep fun j hj c hc => by
       rw [hq, List.getElem?_append_left (List.getElem?_eq_some_iff.1 hc).1]; exact hc) hJ hdis
     · refine ⟨x ++ y, fun j hj => (List.mem_append.1 hj).elim (fun h' => Nat.le_trans h.big (x1 j h')) (y1 j), ?_, ?_⟩
       · rw [argsA, argsA, ← List.append_assoc]
         exact ⟨get_more x2, y2⟩
       · rw [argsA, argsA, ← List.append_assoc]; exact y3
   · have hk : argA e env s = s.new (.wait e env) := by
       obtain ⟨k, t, ns, a⟩ := e
       simp only [X.atom] at h1
       rcases atomK_cases k with ⟨h, _⟩ | ⟨_, h⟩
       · rw [h] at h1; cases h1
       · unfold argA
         simp only []
         rw [if_neg (by omega), if_neg (by omega)]
     have hk' : argA (varX n) env' s' = (j, s') := by
       unfold argA varX
       simp only [if_true]
       unfold lookA
       rw [h4]
     have hcell : CellN (r ++ [j]) (.wait e env) (.wait y env2) := ⟨y, env2, rfl, h6, hc.1, h7.more⟩
     have st := h.meet h5 (hJr j (by simp)).1 (hJr j (by simp)).2 hcell
     rw [List.nodup_cons] at hJ
     have hdis : ∀ i ∈ J', i ∉ r ++ [j] ∧ M ≤ i := fun i hi => by
       refine ⟨fun hr => ?_, (hJr i (by simp [hi])).2⟩
       rcases List.mem_append.1 hr with hr | hr
       · exact (hJr i (by simp [hi])).1 hr
       · simp only [List.mem_singleton] at hr
         subst hr
         exact hJ.1 hi
     obtain ⟨y', y1, y2, y3⟩ := args_n (l := l) (l' := l') (J := J') st he.more hc.2 (h8.keep fun _ _ _ h => h) hJ.2 hdis
     · refine ⟨j :: y', ?_, ?_, ?_⟩
       · intro i hi
         rcases List.mem_cons.1 hi with rfl | hi
         · exact (hJr i (by simp)).2
         · exact y1 i hi
       · rw [argsA, argsA, hk, hk', show r ++ j :: y' = (r ++ [j]) ++ y' by simp]
         refine ⟨?_, y2⟩
         refine get_more ?_
         show (r ++ [j])[s.cells.length]? = some j
         rw [← h.len]; simp
       · rw [argsA, argsA, hk, hk', show r ++ j :: y' = (r ++ [j]) ++ y' by simp]; exact y3
 | [], _ :: _, _, _, _, _, _, _, _, h, _, _ => h.elim
 | _ :: _, [], _, _, _, _, _, _, _, h, _, _ => h.elim
end Go.Lite.Nor

/-
 A term, its arguments by name, comes to what the term comes to: eval, force, apply, print.
-/
namespace Go.Lite.Nor
open Go.Lite
theorem out_here {M : Nat} {cs : List C} {r : List Nat} {s s' : S} {v v' : V} (h : StN M cs r s s') (hv : ValN r v v') : OutN M cs r ValN (.val v s) (.val v' s') :=
 ⟨[], v', s', rfl, by simp, by simpa using hv, by simpa using h⟩
theorem out_stop {M : Nat} {cs : List C} {r : List Nat} {s s' : S} {k : Int} {t : Str} {α : Type} {A : List Nat → α → α → Prop} : OutN M cs r A (.stop k t s) (.stop k t s') := ⟨s', rfl⟩
theorem OutN.more {M : Nat} {cs : List C} {r x : List Nat} {α : Type} {A : List Nat → α → α → Prop} {o o' : O α} (h : OutN M cs (r ++ x) A o o') (hx : ∀ j ∈ x, M ≤ j) : OutN M cs r A o o' := by
 cases o with
 | val v s =>
   obtain ⟨y, v', s', h1, h2, h3, h4⟩ := h
   rw [List.append_assoc] at h3 h4
   exact ⟨x ++ y, v', s', h1, fun j hj => (List.mem_append.1 hj).elim (hx j) (h2 j), h3, h4⟩
 | stop k t s => exact h
def Both (M : Nat) (cs : List C) (r : List Nat) {α : Type} (A : List Nat → α → α → Prop) (o o' : O α) : Prop := NF o ∨ NF o' ∨ OutN M cs r A o o'
theorem Both.of {M : Nat} {cs : List C} {r : List Nat} {α : Type} {A : List Nat → α → α → Prop} {o o' : O α} (h : OutN M cs r A o o') : Both M cs r A o o' := .inr (.inr h)
theorem Both.more {M : Nat} {cs : List C} {r x : List Nat} {α : Type} {A : List Nat → α → α → Prop} {o o' : O α} (h : Both M cs (r ++ x) A o o') (hx : ∀ j ∈ x, M ≤ j) : Both M cs r A o o' := by
 rcases h with h | h | h
 · exact .inl h
 · exact .inr (.inl h)
 · exact .inr (.inr (h.more hx))
theorem sim_bind {M : Nat} {cs : List C} {r : List Nat} {α β : Type} {A : List Nat → α → α → Prop} {B : List Nat → β → β → Prop} {x x' : Option (O α)} {k k' : α → S → Option (O β)} {o o' : O β}
   (hx : ∀ p p', x = some p → x' = some p' → Both M cs r A p p')
   (hk : ∀ y v v' s s' o o', (∀ j ∈ y, M ≤ j) → A (r ++ y) v v' → StN M cs (r ++ y) s s' → k v s = some o → k' v' s' = some o' → Both M cs (r ++ y) B o o')
   (h : (x.bind fun q => q.bind k) = some o) (h' : (x'.bind fun q => q.bind k') = some o') : Both M cs r B o o' := by
 obtain ⟨p, rfl, h⟩ := Option.bind_eq_some_iff.1 h
 obtain ⟨p', rfl, h'⟩ := Option.bind_eq_some_iff.1 h'
 rcases hx p p' rfl rfl with hp | hp | hp
 · cases p with
   | val v s => exact hp.elim
   | stop k2 t s =>
     obtain rfl := (Option.some.inj h).symm
     exact .inl hp
 · cases p' with
   | val v s => exact hp.elim
   | stop k2 t s =>
     obtain rfl := (Option.some.inj h').symm
     exact .inr (.inl hp)
 · cases p with
   | stop a t s =>
     obtain ⟨s', rfl⟩ := hp
     obtain rfl := (Option.some.inj h).symm
     obtain rfl := (Option.some.inj h').symm
     exact .of ⟨s', rfl⟩
   | val v s =>
     obtain ⟨y, v', s', rfl, h1, h2, h3⟩ := hp
     exact (hk y v v' s s' o o' h1 h2 h3 h h').more h1
theorem nums_n {M : Nat} {cs : List C} {r : List Nat} {s s' : S} {op a b : Str} (h : StN M cs r s s') : OutN M cs r ValN (numsA op a b s) (numsA op a b s') := by
 unfold numsA numA truthV
 simp only []
 repeat' split
 all_goals first
   | exact out_here h rfl
   | exact out_stop
def waits (env : Env) : Nat → List (Str × X) → List C
 | _, [] => []
 | N, (n, y) :: L => .wait y ((n, N) :: env) :: waits ((n, N) :: env) (N + 1) L
theorem waits_len (L : List (Str × X)) : ∀ (env : Env) (N : Nat), (waits env N L).length = L.length := by
 induction L with
 | nil => intro env N; rfl
 | cons p L ih => intro env N; obtain ⟨n, y⟩ := p; simp only [waits, List.length_cons, ih]
theorem lets_eval {F : Nat} {b : X} : ∀ (L : List (Str × X)) (m : Nat) (env : Env) (s : S) (o : O V), evalA F m (bindAll L b) env s = some o →
   NF o ∨ ∃ m', evalA F m' b (letEnv (L.map (·.1)) s.cells.length env) ⟨s.cells ++ waits env s.cells.length L, s.steps + L.length, s.uses⟩ = some o
 | [], m, env, s, o, h => .inr ⟨m, by simpa [waits, letEnv, bindAll] using h⟩
 | (n, y) :: L, 0, env, s, o, h => by simp [evalA] at h
 | (n, y) :: L, m + 1, env, s, o, h => by
   rw [show bindAll ((n, y) :: L) b = bindX n y (bindAll L b) from rfl, bindX, evalA_s] at h
   by_cases hg : s.tick.steps > F
   · rw [if_pos hg] at h
     obtain rfl := (Option.some.inj h).symm
     exact .inl rfl
   rw [if_neg hg] at h
   unfold evalF at h
   rw [if_neg (by decide), if_neg (by decide), if_neg (by decide), if_neg (by decide), if_pos rfl] at h
   simp only [List.length_cons, List.length_nil, Nat.zero_add, List.getElem?_cons_succ, List.getElem?_cons_zero, List.take_succ_cons, List.take_zero, List.map_cons, List.map_nil, letEnv] at h
   rcases lets_eval L m _ _ o h with h | ⟨m', h⟩
   · exact .inl h
   · refine .inr ⟨m', ?_⟩
     simp only [S.more, S.tick, List.length_append, List.length_cons, List.length_nil, Nat.zero_add, List.append_assoc, List.singleton_append] at h
     simp only [List.map_cons, letEnv, waits, List.length_cons]
     rw [show s.steps + (L.length + 1) = s.steps + 1 + L.length by omega]
     exact h
theorem find_letEnv_not {t : Str} : ∀ (ns : List Str) (i : Nat) (env : Env), t ∉ ns → (letEnv ns i env).find? (fun p => p.1 == t) = env.find? (fun p => p.1 == t)
 | [], i, env, _ => rfl
 | n :: ns, i, env, h => by
   simp only [List.mem_cons, not_or] at h
   rw [letEnv, find_letEnv_not ns (i + 1) _ h.2, List.find?_cons]
   have : (n == t) = false := by simpa using fun e => h.1 e.symm
   simp only [this]
theorem EnvN.lets {r : List Nat} {env : Env} : ∀ {ns : List Str} {env' : Env} {j : Nat}, EnvN r env env' → (∀ n ∈ ns, isPct n) → EnvN r env (letEnv ns j env')
 | [], env', j, h, _ => h
 | n :: ns, env', j, h, hn => by
   rw [letEnv]
   exact EnvN.lets (h.pct (hn n (by simp))) fun m hm => hn m (by simp [hm])
theorem early_of {r : List Nat} {env : Env} : ∀ {l l' : List X} {L : List (Str × X)} {env' env'' : Env} {N : Nat} {s' : S}, PS l l' L → (∀ p ∈ L, isPct p.1) → (L.map (·.1)).Nodup → EnvN r env env' → (∀ i c, (waits env' N L)[i]? = some c → s'.cells[N + i]? = some c) →
   (∀ (i : Nat) (n : Str), (L.map (·.1))[i]? = some n → ∃ m, env''.find? (fun p => p.1 == n) = some (m, N + i)) → Early r env env'' s' l l' (List.range' N L.length)
 | [], [], L, env', env'', N, s', h, _, _, _, _, _ => by rw [show L = [] from h]; rfl
 | x :: l, x' :: l', L, env', env'', N, s', h, hp, hd, he, hc, hf => by
   rcases h with ⟨h1, h2, h3⟩ | ⟨h1, y, n, L', rfl, rfl, h4, h5⟩
   · exact .inl ⟨h1, h2, early_of h3 hp hd he hc hf⟩
   · have hpn : isPct n := hp (n, y) (by simp)
     simp only [List.map_cons, List.nodup_cons] at hd
     refine .inr ⟨h1, N, List.range' (N + 1) L'.length, n, y, (n, N) :: env', rfl, rfl, ?_, ?_, h4, he.pct hpn, ?_⟩
     · have := hf 0 n (by simp)
       simpa using this
     · have := hc 0 (.wait y ((n, N) :: env')) (by simp [waits])
       simpa using this
     · refine early_of h5 (fun p hp' => hp p (by simp [hp'])) hd.2 (he.pct hpn (j := N)) (fun i c hi => ?_) fun i m hi => ?_
       · have := hc (i + 1) c (by simpa [waits] using hi)
         rw [show N + 1 + i = N + (i + 1) by omega]; exact this
       · have := hf (i + 1) m (by simpa using hi)
         rw [show N + 1 + i = N + (i + 1) by omega]; exact this
 | [], _ :: _, _, _, _, _, _, h, _, _, _, _, _ => h.elim
 | _ :: _, [], _, _, _, _, _, h, _, _, _, _, _ => h.elim
theorem find_letEnv : ∀ (ns : List Str) (N : Nat) (env : Env), ns.Nodup → ∀ (i : Nat) (n : Str), ns[i]? = some n → ∃ m, (letEnv ns N env).find? (fun p => p.1 == n) = some (m, N + i)
 | [], N, env, _, i, n, h => by simp at h
 | a :: ns, N, env, hd, 0, n, h => by
   simp only [List.getElem?_cons_zero, Option.some.injEq] at h
   subst h
   rw [List.nodup_cons] at hd
   rw [letEnv, find_letEnv_not _ _ _ hd.1, List.find?_cons]
   simp only [beq_self_eq_true]
   exact ⟨_, rfl⟩
 | a :: ns, N, env, hd, i + 1, n, h => by
   rw [List.nodup_cons] at hd
   simp only [List.getElem?_cons_succ] at h
   obtain ⟨m, e⟩ := find_letEnv ns (N + 1) ((a, N) :: env) hd.2 i n h
   rw [letEnv]
   exact ⟨m, by rw [e, show N + 1 + i = N + (i + 1) by omega]⟩
theorem early_lets {M : Nat} {cs : List C} {r : List Nat} {env env' : Env} {l l' : List X} {L : List (Str × X)} {s s' : S} (hs : StN M cs r s s') (he : EnvN r env env') (hP : PS l l' L) (hp : ∀ p ∈ L, isPct p.1) (hd : (L.map (·.1)).Nodup) {s2 : S} (h2 : s2.cells = s'.cells ++ waits env' s'.cells.length L) :
   StN M cs r s s2 ∧ EnvN r env (letEnv (L.map (·.1)) s'.cells.length env') ∧ Early r env (letEnv (L.map (·.1)) s'.cells.length env') s2 l l' (List.range' s'.cells.length L.length) ∧ (∀ j ∈ List.range' s'.cells.length L.length, j ∉ r ∧ M ≤ j ∧ j < s2.cells.length) := by
 refine ⟨hs.early h2, he.lets fun n hn => ?_, early_of (env' := env') hP hp hd he (fun i c hi => ?_) (find_letEnv _ _ _ hd), fun j hj => ?_⟩
 · obtain ⟨p, hp', rfl⟩ := List.mem_map.1 hn
   exact hp p hp'
 · rw [h2, List.getElem?_append_right (by omega), Nat.add_sub_cancel_left]; exact hi
 · rw [List.mem_range'_1] at hj
   have := hs.big
   rw [h2, List.length_append, waits_len]
   exact ⟨fun hr => by have := hs.low j hr; omega, by omega, by omega⟩
def SimE (F F' n : Nat) : Prop := ∀ (m M : Nat) (cs : List C) (r : List Nat) (e e' : X) (env env' : Env) (s s' : S) (o o' : O V), RT e e' → cl e → EnvN r env env' → StN M cs r s s' → evalA F n e env s = some o → evalA F' m e' env' s' = some o' → Both M cs r ValN o o'
def SimF (F F' n : Nat) : Prop := ∀ (m M : Nat) (cs : List C) (r : List Nat) (c c' : Nat) (s s' : S) (o o' : O V), r[c]? = some c' → StN M cs r s s' → forceA F n c s = some o → forceA F' m c' s' = some o' → Both M cs r ValN o o'
def SimA (F F' n : Nat) : Prop := ∀ (m M : Nat) (cs : List C) (r : List Nat) (v v' : V) (l l' : List Nat) (s s' : S) (o o' : O V), ValN r v v' → LisN r l l' → StN M cs r s s' → applyA F n v l s = some o → applyA F' m v' l' s' = some o' → Both M cs r ValN o o'
theorem RT.none {k : Int} {t : Str} {ns : List Str} {a : List X} {e' : X} (h : RT (.mk k t ns a) e') (hm : must k t = none) : ∃ a', e' = .mk k t ns a' ∧ RTs a a' := by
 obtain ⟨c, rfl⟩ := h
 exact nrm_none hm
theorem must_none {k : Int} {t : Str} (h7 : k ≠ 7) (h10 : k = 10 → t ≠ consP) : must k t = none := by
 unfold must
 rw [if_neg h7, if_neg (fun ⟨a, b⟩ => h10 a b)]
theorem const_n {r : List Nat} (k : Int) (t : Str) : ValN r (constV k t) (constV k t) := by
 unfold constV
 repeat' split
 all_goals rfl
theorem eval_plain {F F' n m M : Nat} {cs : List C} {r : List Nat} {k : Int} {t : Str} {ns : List Str} {l l' : List X} {env env' : Env} {s s' : S} {o o' : O V} (ihE : SimE F F' n) (ihF : SimF F F' n) (h7 : k ≠ 7) (h10 : k = 10 → t ≠ consP) (hl : RTs l l') (hc : cls l) (h5' : k = 5 → ¬ isPct t)
   (he : EnvN r env env') (ht : StN M cs r s s') (h : evalF (evalA F n) (forceA F n) (applyA F n) k t ns l env s = some o) (h' : evalF (evalA F' m) (forceA F' m) (applyA F' m) k t ns l' env' s' = some o') : Both M cs r ValN o o' := by
 have hcl : ∀ x ∈ l, cl x := (cls_iff l).1 hc
 unfold evalF at h h'
 by_cases h5 : k = 5
 · rw [if_pos h5] at h h'
   obtain ⟨x, x1, x2, x3⟩ := look_n (t := t) ht he (h5' h5)
   exact (ihF m M cs _ _ _ _ _ o o' x2 x3 h h').more fun j hj => Nat.le_trans ht.big (x1 j hj)
 rw [if_neg h5] at h h'
 by_cases h6 : k = 6
 · rw [if_pos h6] at h h'
   obtain rfl := (Option.some.inj h).symm
   obtain rfl := (Option.some.inj h').symm
   exact .of (out_here ht ⟨l', env', [], rfl, hl, hc, he, trivial⟩)
 rw [if_neg h6, if_neg h7] at h h'
 by_cases h8 : k = 8
 · rw [if_pos h8] at h h'
   rcases l with _ | ⟨c, _ | ⟨a, _ | ⟨b, _ | ⟨d', l⟩⟩⟩⟩
   · simp at h
   · simp at h
   · simp at h
   · rcases l' with _ | ⟨c2, _ | ⟨a2, _ | ⟨b2, _ | ⟨d2, l2⟩⟩⟩⟩
     · exact hl.elim
     · exact hl.2.elim
     · exact hl.2.2.elim
     · obtain ⟨r1, r2, r3, _⟩ := hl
       refine sim_bind (A := ValN) (fun p p' hp hp' => ihE m M cs r c c2 env env' _ _ p p' r1 (hcl c (by simp)) he ht hp hp') (fun y v v' s1 s1' o o' y1 hv hs1 h h' => ?_) h h'
       have hk := hv.kind
       have hf : v'.isFalse = v.isFalse := by simp only [V.isFalse, hk.1, hk.2]
       rw [hf] at h'
       refine ihE m M cs _ _ _ env env' s1 s1' o o' ?_ ?_ he.more hs1 h h'
       · by_cases hv2 : v.isFalse = true
         · rw [if_pos hv2, if_pos hv2]; exact r3
         · rw [if_neg hv2, if_neg hv2]; exact r2
       · by_cases hv2 : v.isFalse = true
         · rw [if_pos hv2]; exact hcl b (by simp)
         · rw [if_neg hv2]; exact hcl a (by simp)
     · exact hl.2.2.2.elim
   · simp at h
 rw [if_neg h8] at h h'
 by_cases h9 : k = 9
 · rw [if_pos h9] at h h'
   cases hb : l[ns.length]? with
   | none => rw [hb] at h; simp at h
   | some b =>
     obtain ⟨b', hb', hbb⟩ := hl.get hb
     rw [hb] at h
     rw [hb'] at h'
     simp only [] at h h'
     have hlen : (l.take ns.length).length = ns.length := by
       have := (List.getElem?_eq_some_iff.1 hb).1
       rw [List.length_take]; omega
     have hlen' : (l'.take ns.length).length = ns.length := by
       have := (List.getElem?_eq_some_iff.1 hb').1
       rw [List.length_take]; omega
     have henv : EnvN (r ++ List.range' s'.cells.length ns.length) (letEnv ns s.cells.length env) (letEnv ns s'.cells.length env') := by
       refine letEnv_n he.more fun m hm => ?_
       rw [List.getElem?_append_right (by rw [ht.len]; omega), ht.len, Nat.add_sub_cancel_left, List.getElem?_range' hm, Nat.one_mul]
     have hq : ((l.take ns.length).map fun e => C.wait e (letEnv ns s.cells.length env)).length = ns.length := by rw [List.length_map, hlen]
     have hq' : ((l'.take ns.length).map fun e => C.wait e (letEnv ns s'.cells.length env')).length = ns.length := by rw [List.length_map, hlen']
     have hst := ht.app (q := (l.take ns.length).map fun e => C.wait e (letEnv ns s.cells.length env)) (q' := (l'.take ns.length).map fun e => C.wait e (letEnv ns s'.cells.length env')) (by rw [hq, hq']) (fun i c hi => by
       rw [hq]
       rw [List.getElem?_map] at hi
       obtain ⟨x, hx, rfl⟩ := Option.map_eq_some_iff.1 hi
       have hil : i < ns.length := by have := (List.getElem?_eq_some_iff.1 hx).1; omega
       rw [List.getElem?_take_of_lt hil] at hx
       obtain ⟨x', hx', hr⟩ := hl.get hx
       refine ⟨.wait x' _, ?_, x', _, rfl, hr, hcl x (List.mem_of_getElem? hx), henv⟩
       rw [List.getElem?_map, List.getElem?_take_of_lt hil, hx']; rfl)
     rw [hq] at hst
     refine (ihE m M cs _ b b' _ _ _ _ o o' hbb (hcl b (List.mem_of_getElem? hb)) henv hst h h').more fun j hj => ?_
     rw [List.mem_range'_1] at hj
     have := ht.big
     omega
 rw [if_neg h9] at h h'
 by_cases hk10 : k = 10
 · rw [if_pos hk10] at h h'
   rcases l with _ | ⟨a, _ | ⟨b, _ | ⟨c, l⟩⟩⟩
   · simp at h
   · rcases l' with _ | ⟨a2, _ | ⟨b2, l2⟩⟩
     · exact hl.elim
     · obtain ⟨r1, _⟩ := hl
       refine sim_bind (A := ValN) (fun p p' hp hp' => ihE m M cs r a a2 env env' _ _ p p' r1 (hcl a (by simp)) he ht hp hp') (fun y v v' s1 s1' o o' y1 hv hs1 h h' => ?_) h h'
       have hk := hv.kind
       unfold prim1F at h h'
       by_cases hc : t = carT ∨ t = cdrT
       · rw [if_pos hc] at h h'
         cases v with
         | pair p q =>
           obtain ⟨p', q', rfl, hp, hq⟩ := hv
           refine ihF m M cs _ _ _ _ _ o o' ?_ hs1 h h'
           by_cases hcar : t = carT
           · rw [if_pos hcar, if_pos hcar]; exact hp
           · rw [if_neg hcar, if_neg hcar]; exact hq
         | atom k' t' =>
           rw [show v' = .atom k' t' from hv] at h'
           obtain rfl := (Option.some.inj h).symm
           obtain rfl := (Option.some.inj h').symm
           exact .of out_stop
         | fn e env g =>
           obtain ⟨k', t', ns', a'⟩ := e
           obtain ⟨_, _, _, rfl, _⟩ := hv
           obtain rfl := (Option.some.inj h).symm
           obtain rfl := (Option.some.inj h').symm
           exact .of out_stop
       rw [if_neg hc] at h h'
       have hf : v'.isFalse = v.isFalse := by simp only [V.isFalse, hk.1, hk.2]
       rw [hk.1, hk.2, hf] at h'
       have key : ∀ {x x' : Option (O V)}, x = some o → x' = some o' → (∀ p p', x = some p → x' = some p' → OutN M cs (r ++ y) ValN p p') → Both M cs (r ++ y) ValN o o' := fun h h' hh => .of (hh _ _ h h')
       refine key h h' fun p p' hp hp' => ?_
       repeat' split at hp
       all_goals
         simp only [*, if_true, if_false] at hp'
         obtain rfl := (Option.some.inj hp).symm
         first
           | (obtain rfl := (Option.some.inj hp').symm
              first
                | exact out_here hs1 rfl
                | exact out_stop)
           | (simp at hp'
              obtain rfl := hp'.symm
              first
                | exact out_here hs1 rfl
                | exact out_stop)
     · exact hl.2.elim
   · rcases l' with _ | ⟨a2, _ | ⟨b2, _ | ⟨c2, l2⟩⟩⟩
     · exact hl.elim
     · exact hl.2.elim
     · obtain ⟨r1, r2, _⟩ := hl
       simp only [prim2F] at h h'
       rw [if_neg (h10 hk10)] at h h'
       refine sim_bind (A := ValN) (fun p p' hp hp' => ihE m M cs r a a2 env env' _ _ p p' r1 (hcl a (by simp)) he ht hp hp') (fun y v v' s1 s1' o o' y1 hv hs1 h h' => ?_) h h'
       have hk := hv.kind
       by_cases hq : t = seqT
       · rw [if_pos hq] at h h'
         exact ihE m M cs _ b b2 env env' s1 s1' o o' r2 (hcl b (by simp)) he.more hs1 h h'
       rw [if_neg hq] at h h'
       by_cases hq2 : t = eqP
       · rw [if_pos hq2] at h h'
         refine sim_bind (A := ValN) (fun p p' hp hp' => ihE m M cs _ b b2 env env' _ _ p p' r2 (hcl b (by simp)) he.more hs1 hp hp') (fun y v2 v2' s2 s2' o o' y1 hv2 hs2 h h' => ?_) h h'
         have hk2 := hv2.kind
         rw [hk.1, hk.2, hk2.1, hk2.2] at h'
         obtain rfl := (Option.some.inj h).symm
         obtain rfl := (Option.some.inj h').symm
         exact .of (out_here hs2 rfl)
       rw [if_neg hq2] at h h'
       rw [hk.1, hk.2] at h'
       by_cases hn1 : v.kind ≠ 1
       · rw [if_pos hn1] at h h'
         obtain rfl := (Option.some.inj h).symm
         obtain rfl := (Option.some.inj h').symm
         exact .of out_stop
       rw [if_neg hn1] at h h'
       refine sim_bind (A := ValN) (fun p p' hp hp' => ihE m M cs _ b b2 env env' _ _ p p' r2 (hcl b (by simp)) he.more hs1 hp hp') (fun y v2 v2' s2 s2' o o' y1 hv2 hs2 h h' => ?_) h h'
       have hk2 := hv2.kind
       rw [hk2.1, hk2.2] at h'
       by_cases hn2 : v2.kind ≠ 1
       · rw [if_pos hn2] at h h'
         obtain rfl := (Option.some.inj h).symm
         obtain rfl := (Option.some.inj h').symm
         exact .of out_stop
       rw [if_neg hn2] at h h'
       obtain rfl := (Option.some.inj h).symm
       obtain rfl := (Option.some.inj h').symm
       exact .of (nums_n hs2)
     · exact hl.2.2.elim
   · simp at h
 rw [if_neg hk10] at h h'
 obtain rfl := (Option.some.inj h).symm
 obtain rfl := (Option.some.inj h').symm
 exact .of (out_here ht (const_n k t))
set_option maxHeartbeats 4000000 in
theorem simN (F F' : Nat) : ∀ n, SimE F F' n ∧ SimF F F' n ∧ SimA F F' n := by
 intro n
 induction n with
 | zero => exact ⟨fun _ _ _ _ _ _ _ _ _ _ _ _ _ _ _ _ h => by simp [evalA] at h, fun _ _ _ _ _ _ _ _ _ _ _ _ h => by simp [forceA] at h, fun _ _ _ _ _ _ _ _ _ _ _ _ _ _ _ h => by simp [applyA] at h⟩
 | succ n ih =>
   obtain ⟨ihE, ihF, ihA⟩ := ih
   refine ⟨?_, ?_, ?_⟩
   · rintro m M cs r ⟨k, t, ns, l⟩ e' env env' s s' o o' hr hcl he hs h h'
     rw [evalA_s] at h
     have ht := hs.tick1
     by_cases hg : s.tick.steps > F
     · rw [if_pos hg] at h
       obtain rfl := (Option.some.inj h).symm
       exact .inl rfl
     rw [if_neg hg] at h
     obtain ⟨h5', h10', hcs⟩ := hcl
     by_cases h7 : k = 7
     · subst h7
       obtain ⟨c, rfl⟩ := hr
       cases l with
       | nil => simp [evalF] at h
       | cons f la =>
         rw [X.nrm, show must 7 t = some 1 from rfl] at h'
         simp only [Option.getD_some] at h'
         rw [X.nrms, if_neg (by omega)] at h'
         simp only [] at h'
         obtain ⟨p1, p2, p3⟩ := nrms_parted la 1 (0 + 1) (f.nrm c).2 (by omega)
         rcases lets_eval _ _ _ _ _ h' with hnf | ⟨m', h'⟩
         · exact .inr (.inl hnf)
         obtain ⟨st2, he2, hE, hJ⟩ := early_lets (s2 := ⟨s'.cells ++ waits env' s'.cells.length (X.nrms la 1 (0 + 1) (f.nrm c).2).2.1, s'.steps + (X.nrms la 1 (0 + 1) (f.nrm c).2).2.1.length, s'.uses⟩) ht he p1 (fun p hp => by
           obtain ⟨j, e, _⟩ := p2 p hp
           exact ⟨j, e⟩) p3 rfl
         generalize hL : (X.nrms la 1 (0 + 1) (f.nrm c).2).2.1 = L at h' p1 p2 p3 st2 he2 hE hJ
         generalize hla : (X.nrms la 1 (0 + 1) (f.nrm c).2).1 = la' at h' p1 hE
         generalize (⟨s'.cells ++ waits env' s'.cells.length L, s'.steps + L.length, s'.uses⟩ : S) = s2 at h' st2 hE hJ
         cases m' with
         | zero => simp [evalA] at h'
         | succ m' =>
           rw [evalA_s] at h'
           by_cases hg' : s2.tick.steps > F'
           · rw [if_pos hg'] at h'
             obtain rfl := (Option.some.inj h').symm
             exact .inr (.inl rfl)
           rw [if_neg hg'] at h'
           unfold evalF at h h'
           rw [if_neg (by decide), if_neg (by decide), if_pos rfl] at h h'
           simp only [] at h h'
           have st3 : StN M cs r s.tick s2.tick := ⟨st2.len, st2.nodup, st2.low, st2.cells, st2.big, st2.kept⟩
           obtain ⟨p, hp, h⟩ := Option.bind_eq_some_iff.1 h
           obtain ⟨p', hp', h'⟩ := Option.bind_eq_some_iff.1 h'
           rcases ihE m' _ _ r f _ env _ _ _ p p' ⟨c, rfl⟩ hcs.1 he2 st3.rebase hp hp' with hq | hq | hq
           · cases p with
             | val v s => exact hq.elim
             | stop k2 t s =>
               obtain rfl := (Option.some.inj h).symm
               exact .inl hq
           · cases p' with
             | val v s => exact hq.elim
             | stop k2 t s =>
               obtain rfl := (Option.some.inj h').symm
               exact .inr (.inl hq)
           · cases p with
             | stop a t s =>
               obtain ⟨s', rfl⟩ := hq
               obtain rfl := (Option.some.inj h).symm
               obtain rfl := (Option.some.inj h').symm
               exact .of ⟨s', rfl⟩
             | val v s1 =>
               obtain ⟨y, v', s1', rfl, y1, hv, hs1⟩ := hq
               have y1 : ∀ j ∈ y, s2.cells.length ≤ j := y1
               have hs4 := st3.back hs1
               have hkeep : ∀ j ∈ List.range' s'.cells.length L.length, ∀ c, s2.cells[j]? = some c → s1'.cells[j]? = some c := fun j hj c hc => by
                 rw [hs1.kept j (hJ j hj).2.2 fun hr => ?_]
                 · exact hc
                 · rcases List.mem_append.1 hr with hr | hr
                   · exact (hJ j hj).1 hr
                   · have := y1 j hr
                     have := (hJ j hj).2.2
                     omega
               obtain ⟨x, x1, x2, x3⟩ := args_n hs4 he2.more hcs.2 (hE.keep hkeep) List.nodup_range' (fun j hj => ⟨fun hr => by
                 rcases List.mem_append.1 hr with hr | hr
                 · exact (hJ j hj).1 hr
                 · have := y1 j hr
                   have := (hJ j hj).2.2
                   omega, (hJ j hj).2.1⟩)
               refine ((ihA m' M cs _ v v' _ _ _ _ o o' hv.more x2 x3 h h').more x1).more fun j hj => ?_
               have := y1 j hj
               have := st3.big
               have e : s2.tick.cells.length = s2.cells.length := rfl
               omega
     by_cases hcons : k = 10 ∧ t = consP
     · obtain ⟨rfl, rfl⟩ := hcons
       have hl2 := h10' rfl rfl
       rcases l with _ | ⟨a, _ | ⟨b, _ | ⟨c, l⟩⟩⟩
       · simp at hl2
       · simp at hl2
       · obtain ⟨c, rfl⟩ := hr
         rw [X.nrm, show must 10 consP = some 0 from rfl] at h'
         simp only [Option.getD_some] at h'
         obtain ⟨p1, p2, p3⟩ := nrms_parted [a, b] 0 0 c (by omega)
         rcases lets_eval _ _ _ _ _ h' with hnf | ⟨m', h'⟩
         · exact .inr (.inl hnf)
         obtain ⟨st2, he2, hE, hJ⟩ := early_lets (s2 := ⟨s'.cells ++ waits env' s'.cells.length (X.nrms [a, b] 0 0 c).2.1, s'.steps + (X.nrms [a, b] 0 0 c).2.1.length, s'.uses⟩) ht he p1 (fun p hp => by
           obtain ⟨j, e, _⟩ := p2 p hp
           exact ⟨j, e⟩) p3 rfl
         have hlen := nrms_len [a, b] 0 0 c
         generalize hL : (X.nrms [a, b] 0 0 c).2.1 = L at h' p1 p2 p3 st2 he2 hE hJ
         generalize hla : (X.nrms [a, b] 0 0 c).1 = la' at h' p1 hE hlen
         generalize (⟨s'.cells ++ waits env' s'.cells.length L, s'.steps + L.length, s'.uses⟩ : S) = s2 at h' st2 hE hJ
         rcases la' with _ | ⟨a', _ | ⟨b', _ | ⟨c', l'⟩⟩⟩
         · simp at hlen
         · simp at hlen
         · cases m' with
           | zero => simp [evalA] at h'
           | succ m' =>
             rw [evalA_s] at h'
             by_cases hg' : s2.tick.steps > F'
             · rw [if_pos hg'] at h'
               obtain rfl := (Option.some.inj h').symm
               exact .inr (.inl rfl)
             rw [if_neg hg'] at h'
             unfold evalF at h h'
             rw [if_neg (by decide), if_neg (by decide), if_neg (by decide), if_neg (by decide), if_neg (by decide), if_pos rfl] at h h'
             simp only [prim2F, if_true] at h h'
             have st3 : StN M cs r s.tick s2.tick := ⟨st2.len, st2.nodup, st2.low, st2.cells, st2.big, st2.kept⟩
             have hE' : Early r env (letEnv (L.map (·.1)) s'.cells.length env') s2.tick [a, b] [a', b'] (List.range' s'.cells.length L.length) := by
               have := hE.keep (x := []) (s := s2) (s' := s2.tick) (fun _ _ _ h => h)
               rwa [List.append_nil] at this
             obtain ⟨x, x1, x2, x3⟩ := args_n st3 he2 hcs hE' List.nodup_range' (fun j hj => ⟨(hJ j hj).1, (hJ j hj).2.1⟩)
             simp only [argsA] at x2 x3
             obtain rfl := (Option.some.inj h).symm
             obtain rfl := (Option.some.inj h').symm
             exact .of ⟨x, _, _, rfl, x1, ⟨_, _, rfl, x2.1, x2.2.1⟩, x3⟩
         · simp at hlen
       · simp at hl2
     have hm := must_none (t := t) h7 (fun e ht => hcons ⟨e, ht⟩)
     obtain ⟨l', rfl, hl⟩ := hr.none hm
     cases m with
     | zero => simp [evalA] at h'
     | succ m =>
       rw [evalA_s] at h'
       by_cases hg' : s'.tick.steps > F'
       · rw [if_pos hg'] at h'
         obtain rfl := (Option.some.inj h').symm
         exact .inr (.inl rfl)
       rw [if_neg hg'] at h'
       exact eval_plain ihE ihF h7 (fun e ht => hcons ⟨e, ht⟩) hl hcs h5' he hs.tick h h'
   · intro m M cs r c c' s s' o o' hc hs h h'
     cases m with
     | zero => simp [forceA] at h'
     | succ m =>
       rw [forceA] at h h'
       cases hcc : s.cells[c]? with
       | none => rw [hcc] at h; simp at h
       | some cell =>
         rw [hcc] at h
         obtain ⟨cell', hcc', hq⟩ := hs.cells c c' cell hc hcc
         rw [hcc'] at h'
         cases cell with
         | done v =>
           obtain ⟨v', rfl, hv⟩ := hq
           obtain rfl := (Option.some.inj h).symm
           obtain rfl := (Option.some.inj h').symm
           exact .of (out_here hs hv)
         | busy e env =>
           obtain ⟨_, env', rfl, _⟩ := hq
           obtain rfl := (Option.some.inj h).symm
           obtain rfl := (Option.some.inj h').symm
           exact .of out_stop
         | wait e env =>
           obtain ⟨e', env', rfl, h0, h1, h2⟩ := hq
           simp only [] at h h'
           refine sim_bind (A := ValN) (fun p p' hp hp' => ihE m M cs r e e' env env' _ _ p p' h0 h1 h2 (hs.set hc (c := .busy e env) (c' := .busy e' env') ⟨e', env', rfl, h0, h1, h2⟩).used hp hp') (fun y v v' s1 s1' o o' y1 hv hs1 h h' => ?_) h h'
           obtain rfl := (Option.some.inj h).symm
           obtain rfl := (Option.some.inj h').symm
           exact .of (out_here (hs1.set (get_more hc) ⟨v', rfl, hv⟩) hv)
   · intro m M cs r v v' l l' s s' o o' hv hl hs h h'
     cases m with
     | zero => simp [applyA] at h'
     | succ m =>
       rw [applyA_s] at h h'
       unfold applyF at h h'
       have hll := hl.len
       by_cases hn : l = []
       · rw [if_pos hn] at h
         rw [if_pos (List.eq_nil_of_length_eq_zero (by rw [hll, hn]; rfl))] at h'
         obtain rfl := (Option.some.inj h).symm
         obtain rfl := (Option.some.inj h').symm
         exact .of (out_here hs hv)
       rw [if_neg hn] at h
       rw [if_neg (fun e => hn (List.eq_nil_of_length_eq_zero (by rw [← hll, e]; rfl)))] at h'
       cases v with
       | atom k t =>
         rw [show v' = .atom k t from hv] at h'
         obtain rfl := (Option.some.inj h).symm
         obtain rfl := (Option.some.inj h').symm
         exact .of out_stop
       | pair a b =>
         obtain ⟨_, _, rfl, _⟩ := hv
         obtain rfl := (Option.some.inj h).symm
         obtain rfl := (Option.some.inj h').symm
         exact .of out_stop
       | fn e env g =>
         obtain ⟨k, t, ns, a⟩ := e
         obtain ⟨a', env', g', rfl, h0, h1, h2, h3⟩ := hv
         simp only [] at h h'
         have hgl := h3.len
         rw [hll, hgl] at h'
         by_cases hp : l.length < ns.length - g.length
         · rw [if_pos hp] at h h'
           obtain rfl := (Option.some.inj h).symm
           obtain rfl := (Option.some.inj h').symm
           exact .of (out_here hs ⟨a', env', _, rfl, h0, h1, h2, h3.append hl⟩)
         rw [if_neg hp] at h h'
         cases a with
         | nil => simp at h
         | cons b a2 =>
           cases a' with
           | nil => exact h0.elim
           | cons b' a2' =>
             simp only [] at h h'
             refine sim_bind (A := ValN) (fun p p' hp hp' => ihE m M cs r b b' _ _ _ _ p p' h0.1 h1.1 (h2.zip (h3.append (hl.take _))) hs hp hp') (fun y v2 v2' s1 s1' o o' y1 hv2 hs1 h h' => ?_) h h'
             exact ihA m M cs _ v2 v2' _ _ s1 s1' o o' hv2 (hl.drop _).more hs1 h h'
def TxtN : List Nat → Str → Str → Prop := fun _ a b => b = a
theorem say_n {M : Nat} {cs : List C} {r : List Nat} {s s' : S} {out t : Str} (h : StN M cs r s s') : OutN M cs r TxtN (sayA out t s) (sayA out t s') := by
 unfold sayA
 split
 · exact out_stop
 · exact ⟨[], _, s', rfl, by simp, rfl, by simpa using h⟩
theorem say_bind_n {M : Nat} {cs : List C} {r : List Nat} {s s' : S} {out t : Str} {k k' : Str → S → Option (O Str)} {o o' : O Str} (hs : StN M cs r s s')
   (hk : ∀ out o o', k out s = some o → k' out s' = some o' → Both M cs r TxtN o o') (h : (sayA out t s).bind k = some o) (h' : (sayA out t s').bind k' = some o') : Both M cs r TxtN o o' := by
 unfold sayA at h h'
 by_cases hc : out.length + t.length > 2000
 · rw [if_pos hc] at h h'
   obtain rfl := (Option.some.inj h).symm
   obtain rfl := (Option.some.inj h').symm
   exact .of out_stop
 · rw [if_neg hc] at h h'
   exact hk _ o o' h h'
set_option maxHeartbeats 2000000 in
theorem simNP (F F' : Nat) : ∀ n,
   (∀ (m M : Nat) (cs : List C) (r : List Nat) (out : Str) (v v' : V) (s s' : S) (o o' : O Str), ValN r v v' → StN M cs r s s' → printA F n out v s = some o → printA F' m out v' s' = some o' → Both M cs r TxtN o o') ∧
   (∀ (m M : Nat) (cs : List C) (r : List Nat) (out : Str) (a b a' b' : Nat) (s s' : S) (o o' : O Str), r[a]? = some a' → r[b]? = some b' → StN M cs r s s' → rowA F n out a b s = some o → rowA F' m out a' b' s' = some o' → Both M cs r TxtN o o') := by
 intro n
 induction n with
 | zero => exact ⟨fun _ _ _ _ _ _ _ _ _ _ _ _ _ h => by simp [printA] at h, fun _ _ _ _ _ _ _ _ _ _ _ _ _ _ _ _ h => by simp [rowA] at h⟩
 | succ n ih =>
   obtain ⟨ihP, ihR⟩ := ih
   refine ⟨?_, ?_⟩
   · intro m M cs r out v v' s s' o o' hv hs h h'
     cases m with
     | zero => simp [printA] at h'
     | succ m =>
       rw [printA_s] at h h'
       cases v with
       | atom k t =>
         rw [show v' = .atom k t from hv] at h'
         obtain rfl := (Option.some.inj h).symm
         obtain rfl := (Option.some.inj h').symm
         exact .of (say_n hs)
       | fn e env g =>
         obtain ⟨k, t, ns, a⟩ := e
         obtain ⟨_, _, _, rfl, _⟩ := hv
         obtain rfl := (Option.some.inj h).symm
         obtain rfl := (Option.some.inj h').symm
         exact .of (say_n hs)
       | pair a b =>
         obtain ⟨a', b', rfl, h1, h2⟩ := hv
         exact say_bind_n hs (fun out o o' h h' => ihR m M cs r out a b a' b' s s' o o' h1 h2 hs h h') h h'
   · intro m M cs r out a b a' b' s s' o o' ha hb hs h h'
     cases m with
     | zero => simp [rowA] at h'
     | succ m =>
       rw [rowA] at h h'
       refine sim_bind (A := ValN) (fun p p' hp hp' => (simN F F' n).2.1 m M cs r a a' s s' p p' ha hs hp hp') (fun y v v' s1 s1' o o' y1 hv hs1 h h' => ?_) h h'
       refine sim_bind (A := TxtN) (fun p p' hp hp' => ihP m M cs _ out v v' s1 s1' p p' hv hs1 hp hp') (fun y2 out2 out2' s2 s2' o o' y3 ho hs2 h h' => ?_) h h'
       have ho : out2' = out2 := ho
       subst ho
       refine sim_bind (A := ValN) (fun p p' hp hp' => (simN F F' n).2.1 m M cs _ b b' s2 s2' p p' (get_more (get_more hb)) hs2 hp hp') (fun y4 v2 v2' s3 s3' o o' y5 hv2 hs3 h h' => ?_) h h'
       have hk := hv2.kind
       have rest : ∀ (x x' : V), x'.kind = x.kind → ValN (((r ++ y) ++ y2) ++ y4) x x' → (if x.kind = 3 then some (sayA out2' [41] s3) else (sayA out2' [32, 46, 32] s3).bind fun out s => (printA F n out x s).bind fun r => r.bind fun out s => some (sayA out [41] s)) = some o →
           (if x'.kind = 3 then some (sayA out2' [41] s3') else (sayA out2' [32, 46, 32] s3').bind fun out s => (printA F' m out x' s).bind fun r => r.bind fun out s => some (sayA out [41] s)) = some o' → Both M cs (((r ++ y) ++ y2) ++ y4) TxtN o o' := by
         intro x x' hkx hvx h h'
         rw [hkx] at h'
         by_cases h3 : x.kind = 3
         · rw [if_pos h3] at h h'
           obtain rfl := (Option.some.inj h).symm
           obtain rfl := (Option.some.inj h').symm
           exact .of (say_n hs3)
         rw [if_neg h3] at h h'
         refine say_bind_n hs3 (fun out o o' h h' => ?_) h h'
         refine sim_bind (A := TxtN) (fun p p' hp hp' => ihP m M cs _ out x x' s3 s3' p p' hvx hs3 hp hp') (fun y6 o2 o2' s4 s4' o o' y7 ho hs4 h h' => ?_) h h'
         have ho : o2' = o2 := ho
         subst ho
         obtain rfl := (Option.some.inj h).symm
         obtain rfl := (Option.some.inj h').symm
         exact .of (say_n hs4)
       cases v2 with
       | atom k t =>
         rw [show v2' = .atom k t from hv2] at hk h'
         exact rest (.atom k t) (.atom k t) rfl rfl h h'
       | fn e env g =>
         obtain ⟨k, t, ns, a2⟩ := e
         have hv3 := hv2
         obtain ⟨a3, env', g', rfl, _⟩ := hv2
         exact rest (.fn (.mk k t ns a2) env g) (.fn (.mk k t ns a3) env' g') rfl hv3 h h'
       | pair c d' =>
         obtain ⟨c', d'', rfl, g1, g2⟩ := hv2
         exact say_bind_n hs3 (fun out o o' h h' => ihR m M cs _ out c d' c' d'' s3 s3' o o' g1 g2 hs3 h h') h h'
theorem norm_out {e : X} {c n m F F' : Nat} {o o' : O Str} (hc : cl e) (h : outA n e [] F = some o) (h' : outA m (e.nrm c).1 [] F' = some o') : o.kind = 6 ∨ o'.kind = 6 ∨ (o'.kind = o.kind ∧ o'.txt = o.txt) := by
 have hst : StN 0 [] [0] (inputA [] ⟨[], 0, 0⟩).2 (inputA [] ⟨[], 0, 0⟩).2 := by
   refine ⟨rfl, by simp, by simp [inputA, S.new], fun i j c hj hi => ?_, Nat.zero_le _, fun j hj => by omega⟩
   have hi0 : i = 0 := by
     have := (List.getElem?_eq_some_iff.1 hi).1
     simp [inputA, S.new] at this; omega
   subst hi0
   simp only [inputA, S.new, List.nil_append, List.getElem?_cons_zero, Option.some.injEq] at hj hi
   subst hj hi
   exact ⟨_, rfl, _, rfl, rfl⟩
 have henv : EnvN [0] [(inputT, (inputA [] ⟨[], 0, 0⟩).1)] [(inputT, (inputA [] ⟨[], 0, 0⟩).1)] := by
   intro t ht
   refine ⟨fun q hq => ⟨q, hq, ?_⟩, fun hq => hq⟩
   have := List.mem_of_find?_eq_some hq
   simp only [List.mem_singleton] at this
   subst this; rfl
 have hb : Both 0 [] [0] TxtN o o' := by
   unfold outA at h h'
   refine sim_bind (A := ValN) (fun p p' hp hp' => (simN F F' n).1 m 0 [] [0] e _ _ _ _ _ p p' ⟨c, rfl⟩ hc henv hst hp hp') (fun y v v' s1 s1' o o' y1 hv hs1 h h' => ?_) h h'
   exact (simNP F F' n).1 m 0 [] _ [] v v' s1 s1' o o' hv hs1 h h'
 rcases hb with hb | hb | hb
 · cases o with
   | val a s => exact hb.elim
   | stop k t s => exact .inl hb
 · cases o' with
   | val a s => exact hb.elim
   | stop k t s => exact .inr (.inl hb)
 · cases o with
   | val a s =>
     obtain ⟨x, v', s', rfl, _, ht, _⟩ := hb
     exact .inr (.inr ⟨rfl, ht⟩)
   | stop k t s =>
     obtain ⟨s', rfl⟩ := hb
     exact .inr (.inr ⟨rfl, rfl⟩)
end Go.Lite.Nor

/-
 The laws' ground: natural.Eval stands for its Lean function.
-/
namespace Go.Lite
open Go Go.Proofs
noncomputable def own6 (f : FuncId) : Option (List AV → Heap → R) := bif Nat.beq f 14 then some gEval else own5 f
noncomputable def P6 : Prg := slimPrg Tryd.prog own6 mode5
theorem cm11 {n : Nat} {caps xs : List AV} {H : Heap} : callV (callN P6 n) (.func 11 caps) xs H = callS P6 n 11 (mapHM shutV (xs ++ caps) H) := callV_s rfl rfl
theorem cm12 {n : Nat} {caps xs : List AV} {H : Heap} : callV (callN P6 n) (.func 12 caps) xs H = callS P6 n 12 (mapHM shutV (xs ++ caps) H) := callV_s rfl rfl
theorem cm13 {n : Nat} {caps xs : List AV} {H : Heap} : callV (callN P6 n) (.func 13 caps) xs H = callS P6 n 13 (mapHM shutV (xs ++ caps) H) := callV_s rfl rfl
theorem cm14 {n : Nat} {caps xs : List AV} {H : Heap} : callV (callN P6 n) (.func 14 caps) xs H = callN P6 n 14 (xs ++ caps) H := rfl
theorem cm15 {n : Nat} {caps xs : List AV} {H : Heap} : callV (callN P6 n) (.func 15 caps) xs H = callS P6 n 15 (mapHM shutV (xs ++ caps) H) := callV_s rfl rfl
theorem cm16 {n : Nat} {caps xs : List AV} {H : Heap} : callV (callN P6 n) (.func 16 caps) xs H = callS P6 n 16 (mapHM shutV (xs ++ caps) H) := callV_s rfl rfl
theorem cm17 {n : Nat} {caps xs : List AV} {H : Heap} : callV (callN P6 n) (.func 17 caps) xs H = callS P6 n 17 (mapHM shutV (xs ++ caps) H) := callV_s rfl rfl
theorem cm18 {n : Nat} {caps xs : List AV} {H : Heap} : callV (callN P6 n) (.func 18 caps) xs H = callS P6 n 18 (mapHM shutV (xs ++ caps) H) := callV_s rfl rfl
theorem cm19 {n : Nat} {caps xs : List AV} {H : Heap} : callV (callN P6 n) (.func 19 caps) xs H = callS P6 n 19 (mapHM shutV (xs ++ caps) H) := callV_s rfl rfl
theorem cm20 {n : Nat} {caps xs : List AV} {H : Heap} : callV (callN P6 n) (.func 20 caps) xs H = callS P6 n 20 (mapHM shutV (xs ++ caps) H) := callV_s rfl rfl
theorem cm21 {n : Nat} {caps xs : List AV} {H : Heap} : callV (callN P6 n) (.func 21 caps) xs H = call1S P6 n 21 (mapHM softV (xs ++ caps) H) := callV_1 rfl rfl
theorem cm22 {n : Nat} {caps xs : List AV} {H : Heap} : callV (callN P6 n) (.func 22 caps) xs H = callS P6 n 22 (mapHM shutV (xs ++ caps) H) := callV_s rfl rfl
theorem cm23 {n : Nat} {caps xs : List AV} {H : Heap} : callV (callN P6 n) (.func 23 caps) xs H = callS P6 n 23 (mapHM shutV (xs ++ caps) H) := callV_s rfl rfl
theorem cm24 {n : Nat} {caps xs : List AV} {H : Heap} : callV (callN P6 n) (.func 24 caps) xs H = call1S P6 n 24 (mapHM softV (xs ++ caps) H) := callV_1 rfl rfl
set_option linter.defProp false in
def CM := (And.intro (And.intro (And.intro @cm11 (And.intro @cm12 @cm13)) (And.intro (And.intro @cm14 @cm15) (And.intro @cm16 @cm17))) (And.intro (And.intro @cm18 (And.intro @cm19 @cm20)) (And.intro (And.intro @cm21 @cm22) (And.intro @cm23 @cm24))))
theorem p56 : PrgLe P5 P6 where
 code := rfl
 mode := rfl
 none := fun f h => by
   show own6 f = none
   have h : own5 f = none := h
   unfold own6
   cases hb : Nat.beq f 14 with
   | false => exact h
   | true =>
     unfold own5 at h
     rw [hb] at h; cases h
 some := fun f g h => by
   have h : own5 f = some g := h
   cases hb : Nat.beq f 14 with
   | false => exact ⟨g, by show own6 f = some g; unfold own6; rw [hb]; exact h, fun _ _ => RLe.refl⟩
   | true =>
     unfold own5 at h
     rw [hb] at h
     simp only [cond_true, Option.some.injEq] at h
     refine ⟨gEval, by show own6 f = some gEval; unfold own6; rw [hb]; rfl, fun xs H => ?_⟩
     rw [← h]; exact RLe.none
theorem Ret.up {f : FuncId} {xs : List AV} {v : AV} (r : Ret P5 f xs v) : Ret P6 f xs v := Ret.lift p56 r
noncomputable def gEvalF (A : Nat → R) : R := open Classical in if h : ∃ o, Ev fun n => A n = some o then some h.choose else none
noncomputable def evalV (v : AV) (z : Int) (H : Heap) : R := gEvalF fun k => opened H (noPanic (runE (callN P5 k) k [v, .lst 0 0 true [], .int .i64 z] H.bare))
theorem gEvalN_eq {k : Nat} {x : AV} {z : Int} {H : Heap} : gEvalN k [x, .nils, .int .i64 z] H = (shutV x H).bind fun q => opened q.2 (noPanic (runE (callN P5 k) k [q.1, .lst 0 0 true [], .int .i64 z] q.2.bare)) := by
 unfold gEvalN
 rw [mapHM_cons]
 cases shutV x H with
 | none => rfl
 | some q =>
   obtain ⟨v, H1⟩ := q
   simp -implicitDefEqProofs only [mapHM_cons, mapHM_nil, ↓v_lenS, ZZ, Nat.reduceBEq, reduceIte, Nat.reduceAdd, Nat.reduceLeDiff, Nat.reduceEqDiff, Nat.reduceBneDiff, Option.bind_some, List.length_cons, List.length_nil]
theorem gEvalF_none : gEvalF (fun _ => none) = none := by
 unfold gEvalF
 split
 · rename_i h
   obtain ⟨N, hN⟩ := h.choose_spec
   exact absurd (hN N (Nat.le_refl _)) (by simp)
 · rfl
theorem call14s {n : Nat} {x : AV} {z : Int} {H : Heap} : callN P6 (n + 1) 14 [x, .nils, .int .i64 z] H = (shutV x H).bind fun q => evalV q.1 z q.2 := by
 rw [callN_own (P := P6) (g := gEval) rfl]
 show gEvalF (fun n => gEvalN n [x, .nils, .int .i64 z] H) = _
 rw [show (fun n => gEvalN n [x, .nils, .int .i64 z] H) = fun n => (shutV x H).bind fun q => opened q.2 (noPanic (runE (callN P5 n) n [q.1, .lst 0 0 true [], .int .i64 z] q.2.bare)) from funext fun n => gEvalN_eq]
 cases shutV x H with
 | none => exact gEvalF_none
 | some q => rfl
theorem evalV_ok {e : X} (ht : e.tame) (F : Nat) (z : Int) (hz : z = F) (hF : F ≤ 1099511627776) {m : Nat} {o : O Str} (h : outA m e [] F = some o) (H : Heap) : evalV e.v z H = some (.ret (resV (resO o)), H) := by
 subst hz
 rw [← eval14 e ht F hF h H]
 show _ = gEvalF (fun n => gEvalN n [e.v, .nils, .int .i64 F] H)
 have hs : shutV e.v H = some (e.v, H) := by
   obtain ⟨k, t, ns, l⟩ := e
   rw [X.v_mk]
   simp -implicitDefEqProofs only [XS, ↓v_lenS, ZZ, Nat.reduceBEq, reduceIte, Nat.reduceAdd, Nat.reduceLeDiff, Nat.reduceEqDiff, Nat.reduceBneDiff]
 rw [show (fun n => gEvalN n [e.v, .nils, .int .i64 F] H) = fun n => opened H (noPanic (runE (callN P5 n) n [e.v, .lst 0 0 true [], .int .i64 F] H.bare)) from funext fun n => by rw [gEvalN_eq, hs]; rfl]
 rfl
theorem resV_eq (o : O Str) : resV (resO o) = .tuple [.agg [.int .i64 o.kind, .str o.txt, .int .i64 0], .int .i64 o.st.steps, .int .i64 o.st.uses] := by
 cases o <;> rfl
def fiveX : X := .mk 1 [53] [] []
theorem five_out : outA 3 fiveX [] 1 = some (.val [53] ⟨[.done (.atom 3 emptyT)], 1, 0⟩) := by
 unfold outA
 simp [fiveX, evalA_s, evalF, S.tick, constV, O.bind, printA_s, sayA, inputA, S.new]
theorem known11 : Ret P6 11 [] (.bool true) := by
 have ht : fiveX.tame := by
   rw [fiveX, X.tame]
   refine ⟨⟨⟨by simp, by simp⟩, fun _ => ⟨5, by decide, ?_⟩⟩, by simp, by simp, trivial⟩
   rw [show (5 : Int) = ((5 : Nat) : Int) from rfl, decZ_nonneg, decN_small (by omega)]
 have eV := evalV_ok ht 1 1 rfl (by omega) five_out
 rw [fiveX, X.v_mk, resV_eq] at eV
 simp only [O.kind, O.txt, O.st, show ((1 : Nat) : Int) = 1 from rfl, show ((0 : Nat) : Int) = 0 from rfl, show vStrs [] = .lst 0 0 true [] from rfl, show vXs [] = .lst 0 0 true [] from rfl] at eV
 refine Ret.of rfl (code11 _ _) rfl rfl (fun H => by simp -implicitDefEqProofs only [↓v_lenS, ZZ, Nat.reduceBEq, reduceIte, Nat.reduceAdd, Nat.reduceLeDiff, Nat.reduceEqDiff, Nat.reduceBneDiff]) ((Ev.ge 1).mono fun n hn H => ?_)
 obtain ⟨n, rfl⟩ : ∃ k, n = k + 1 := ⟨n - 1, by omega⟩
 simp -implicitDefEqProofs only [c11, ↓v_lenS, ZZ, Nat.reduceBEq, reduceIte, Nat.reduceAdd, Nat.reduceLeDiff, Nat.reduceEqDiff, Nat.reduceBneDiff, CM, call14s, eV, Ends, gives_ret]
 exact ⟨_, rfl⟩
end Go.Lite

/-
 What laws ask of terms that were made.
-/
namespace Go.Lite
open Go Go.Proofs
structure Made (e : X) : Prop where
 wf : e.wf
 tame : e.tame
 no : ∀ w, (∀ j, vdot j ≠ w) → e.no w
theorem made_of {e : X} {m' : Nat} (h : e.good [] 0 m') (hm : m' < 100) : Made e :=
 ⟨right_wf e (good_right e [] 0 m' h), good_tame e [] 0 m' h (by omega) (fun s hs => by cases hs), fun w hw => good_no w hw e [] 0 m' h fun s hs => by cases hs⟩
theorem eval_told {e : X} (ht : e.tame) (F : Nat) (z : Int) (hz : z = F) (hF : F ≤ 1099511627776) {m : Nat} {o : O Str} (h : outA m e [] F = some o) (H : Heap) : evalV e.v z H = some (.ret (.tuple [.agg [.int .i64 o.kind, .str o.txt, .int .i64 0], .int .i64 o.st.steps, .int .i64 o.st.uses]), H) := by
 rw [evalV_ok ht F z hz hF h, resV_eq]
end Go.Lite

/-
 A law's call, from the interpreter's run; a row that lists variables, of which one is read; raw terms as they stand in the world.
-/
namespace Go.Lite
open Go Go.Proofs Go.RowKit
theorem returns_laid {H : Type} {enc : TypeId × Value → H} {a : Assume} {C : Checked} {os : Os} {f : FuncId} {fn : Func} {s : ChangeSpec} {conds : List PathCond} {apart fresh handsOn again : Bool} {X : World → Array Value → Prop}
   (own : ownKnob C.prog.godebug = none) (started : os.Started) (noInit : C.prog.inits.idxOf? f = none) (hfn : C.prog.funcs[f]? = some fn)
   (witness : ∃ (w : World) (tape : Tape) (i : Input), w.os = os ∧ (w.forCall tape i).Shaped C.prog ∧ i.vars = [] ∧ Input.okWide C.prog (w.forCall tape i) .any w.heap.size f i ∧
     ((s.pre enc C.prog fn conds apart (w.forCall tape i).memory i.args ∧ X (w.forCall tape i).memory i.args) ∧ sizedMet enc C.prog fn (OpenSpec.ofChange s) apart (w.forCall tape i).memory i.args) ∧ a.holds C.prog (lone (Frame.enter C.prog f i.args .normal) [] (w.forCall tape i)))
   (contract : ∀ (W : World) (base : Nat) (args : Array Value) (ds gs : List (DataW H)) (before : List MemPlace),
     (∀ (j : Nat) t v, fn.params[j]? = some t → args[j]? = some v → Value.okWide C.prog W .any base t v) →
     DataW.Whole enc C.prog fn.params.toList s.vars apart W args.toList ds gs before →
     conds.all (PathCond.test C.prog ⟨fn.params.toList, ds, s.plain.varTypes C.prog, gs⟩) = true →
     (DataW.weightsEach C.prog (fn.params.toList ++ s.plain.varTypes C.prog) (ds ++ gs)).all (· ≤ reachBytes) = true →
     W.ShapedOpen C.prog → X W.memory args →
     a.holds C.prog (lone (Frame.enter C.prog f args .normal) [] W) →
     Calls C.prog f args W fun e W' => ∃ v, e = .returned v ∧ s.post enc C.prog fn apart fresh handsOn again W args v W') :
   ReturnsInHanded a C os f .any (fun w args => (s.pre enc C.prog fn conds apart w args ∧ X w args) ∧ sizedMet enc C.prog fn (OpenSpec.ofChange s) apart w args) (s.post enc C.prog fn apart fresh handsOn again) := by
 refine returnsInHanded_of_calls own started noInit witness ?_
 intro w tape i _ hsh _ hok hpre hholds
 obtain ⟨_, _, _, fn', hfn', _, _, _, _, hval⟩ := hok
 have e : fn' = fn := Option.some.inj (hfn'.symm.trans hfn)
 subst e
 obtain ⟨⟨⟨ds, gs, before, hw, hc⟩, hx⟩, hz⟩ := hpre
 have hw' := DataW.Whole.of_heap (w' := w.forCall tape i) (by rfl) hw
 refine (contract (w.forCall tape i) w.heap.size i.args ds gs before hval hw' hc (hz.weights hw) hsh hx hholds).mono fun e W' ⟨v, he, hp⟩ => ?_
 subst he
 exact ChangeSpec.post_blind hp
theorem tab_of_laid {W : World} {a b : DataW Unit} (h : laidMet Tryd.prog [("math/bits.deBruijn32tab", a), ("math/bits.deBruijn64tab", b), ("internal/strconv.uint64pow10", Go.Proofs.YtmfdlglhngmacaaDoor.Rows.laid_internal_strconv_uint64pow10)] W.memory) : TabAt W := by
 have h2 := h.filter fun x => x.1 == "internal/strconv.uint64pow10"
 have h3 : laidMet Tryd.prog [("internal/strconv.uint64pow10", Lib.tabData .u64 Lib.pow10Tab)] W.memory := h2
 have h4 := Lib.tabIs_of_head (g := 0) (t := 172) (e := 162) (n := 20) (by kernel_rfl) (by kernel_rfl) (by kernel_rfl) (by kernel_rfl) (by kernel_rfl) (by kernel_rfl) h3
 exact h4
theorem open_raws {H : Type} {enc : TypeId × Value → H} {P : Program} {W : World} {sp : Nat → Bool} {held : Bool} {t e : TypeId} {fs : Array Field} (ht : P.underlying t = some (.slice e)) (he : P.underlying e = some (.struct fs)) (hc : P.cellsOf e = 3)
   (hf0 : ∃ f, fs[0]? = some f ∧ f.offset = 0 ∧ P.underlying f.type = some (.int .i64) ∧ P.cellsOf f.type = 1) (hf1 : ∃ f, fs[1]? = some f ∧ f.offset = 1 ∧ P.underlying f.type = some (.int .i64) ∧ P.cellsOf f.type = 1)
   (hf2 : ∃ f, fs[2]? = some f ∧ f.offset = 2 ∧ f.type = t ∧ P.cellsOf f.type = 1) :
   ∀ (fuel : Nat) (u : Value) (x : DataW H × List MemPlace), DataW.trod enc P W 0 sp held fuel t [u] = some x →
   ∃ l : List Raw, (l.length ≤ 9223372036854775807 ∧ Raw.fits l) ∧ VRel (nbT W.heap.size) (emb0 W) (vRaws l) u := by
 intro fuel
 induction fuel using Nat.strongRecOn with
 | _ fuel ih =>
   intro u x h
   rcases DataW.trod_slice ht h with ⟨h1, _⟩ | ⟨a, len, cap, elems, rest, n, hfu, h1, _, _, hl, hm, hlen, hel, _, _⟩
   · simp only [List.cons.injEq, and_true] at h1
     subst h1
     exact ⟨[], ⟨by simp, trivial⟩, slice_nil_rel⟩
   · simp only [List.cons.injEq, and_true] at h1
     subst h1
     rw [hc] at hel
     obtain ⟨l, h1, h2, h3⟩ := slice_rel (W := W) (g := Raw.cells) (F := Raw.fit) (es := 3) (by decide) Raw.cells_len hl fun i hi => by
       obtain ⟨y, hy⟩ : ∃ y, elems[i]? = some y := ⟨elems[i]'(by omega), List.getElem?_eq_getElem _⟩
       have := hel i hi
       rw [hy] at this
       obtain ⟨cs, hcs, hd⟩ := Option.bind_eq_some_iff.1 this
       obtain ⟨xs, m, hm, _, hcl, hxl, hfs⟩ := DataW.trod_struct he hd
       rw [hc] at hcl
       obtain ⟨c0, c1, c2, rfl⟩ : ∃ c0 c1 c2, cs = [c0, c1, c2] := by
         match cs, hcl with
         | [c0, c1, c2], _ => exact ⟨c0, c1, c2, rfl⟩
       obtain ⟨f0, g0, o0, u0, z0⟩ := hf0
       obtain ⟨f1, g1, o1, u1, z1⟩ := hf1
       obtain ⟨f2, g2, o2, u2, z2⟩ := hf2
       have q0 := hfs 0 f0 g0
       have q1 := hfs 1 f1 g1
       have q2 := hfs 2 f2 g2
       have hsz : xs.length = fs.size := hxl
       have l2 : 2 < fs.size := (Array.getElem?_eq_some_iff.1 g2).1
       rw [o0, z0, List.getElem?_eq_getElem (by omega)] at q0
       rw [o1, z1, List.getElem?_eq_getElem (by omega)] at q1
       rw [o2, z2, u2, List.getElem?_eq_getElem (by omega)] at q2
       simp only [List.drop_zero, List.take_succ_cons, List.take_zero, List.drop_succ_cons] at q0 q1 q2
       obtain ⟨k, hk, _, _⟩ := DataW.trod_int u0 q0
       obtain ⟨q, hq, _, _⟩ := DataW.trod_int u1 q1
       obtain ⟨l', ⟨w1, w2⟩, w3⟩ := ih m (by omega) c2 _ q2
       simp only [List.cons.injEq, and_true] at hk hq
       subst hk; subst hq
       refine ⟨_, .mk k q l', hcs, ?_, w1, w2⟩
       rw [Raw.cells_mk]
       simp only [VRels, VRel]
       exact ⟨_, _, rfl, rfl, _, _, rfl, rfl, _, _, rfl, w3, rfl⟩
     have hmx : maxLen = 9223372036854775807 := by decide
     exact ⟨l, ⟨by omega, (Raw.fits_iff l).2 h3⟩, h2⟩
theorem own5_ok {nb : NB} (hgl : (Tryd.prog).globals.size ≤ nb.n) (hT : ∀ w, nb.inv w → TabAt w) : ∀ f g, own5 f = some g → OwnOk Tryd.prog nb f g := by
 intro f g h
 unfold own5 at h
 cases h0 : Nat.beq f 14 with
 | true =>
   rw [h0] at h
   simp only [cond_true, Option.some.injEq] at h
   subst h
   intro xs args ι H w out hh
   cases hh
 | false =>
 rw [h0] at h
 simp only [cond_false] at h
 cases h1 : Nat.beq f 69 with
 | true =>
   rw [h1] at h
   simp only [cond_true, Option.some.injEq] at h
   subst h
   rw [Nat.eq_of_beq_eq_true h1]
   refine ownCheck_ok ?_
   intro t c o h
   simp only [lies4, Bool.or_eq_true, Bool.and_eq_true] at h
   rcases h with ⟨⟨h1, h2⟩, h3⟩ | ⟨⟨h1, h2⟩, h3⟩
   · rw [Nat.eq_of_beq_eq_true h1, Nat.eq_of_beq_eq_true h2, Nat.eq_of_beq_eq_true h3]
     exact ⟨by decide, by kernel_rfl⟩
   · rw [Nat.eq_of_beq_eq_true h1, Nat.eq_of_beq_eq_true h2, Nat.eq_of_beq_eq_true h3]
     exact ⟨by decide, by kernel_rfl⟩
 | false =>
   rw [h1] at h
   simp only [cond_false] at h
   cases h2 : Nat.beq f 29 with
   | true =>
     rw [h2] at h
     simp only [cond_true, Option.some.injEq] at h
     subst h
     rw [Nat.eq_of_beq_eq_true h2]
     exact ownString_ok
   | false =>
     rw [h2] at h
     simp only [cond_false] at h
     cases h3 : Nat.beq f 86 with
     | true =>
       rw [h3] at h
       simp only [cond_true, Option.some.injEq] at h
       subst h
       rw [Nat.eq_of_beq_eq_true h3]
       exact ownClone_ok hgl (by kernel_rfl) (e := 3) (by decide) (fun own mode => code86 own mode)
     | false =>
       rw [h3] at h
       simp only [cond_false] at h
       cases h4 : Nat.beq f 98 with
       | true =>
         rw [h4] at h
         simp only [cond_true, Option.some.injEq] at h
         subst h
         rw [Nat.eq_of_beq_eq_true h4]
         exact ownItoa_ok hT
       | false =>
         rw [h4] at h
         simp only [cond_false] at h
         cases h5 : Nat.beq f 99 with
         | true =>
           rw [h5] at h
           simp only [cond_true, Option.some.injEq] at h
           subst h
           rw [Nat.eq_of_beq_eq_true h5]
           exact ownRepeat_ok
         | false => rw [h5] at h; cases h
theorem own6_ok {nb : NB} (hgl : (Tryd.prog).globals.size ≤ nb.n) (hT : ∀ w, nb.inv w → TabAt w) : ∀ f g, own6 f = some g → OwnOk Tryd.prog nb f g := by
 intro f g h
 unfold own6 at h
 cases h0 : Nat.beq f 14 with
 | true =>
   rw [h0] at h
   simp only [cond_true, Option.some.injEq] at h
   subst h
   rw [Nat.eq_of_beq_eq_true h0]
   exact gEval_ok hgl fun n => callN_sound hgl (by kernel_rfl) (own5_ok hgl hT) n
 | false =>
   rw [h0] at h
   exact own5_ok hgl hT f g h
theorem calls_of_ret {W : World} (hsh : W.ShapedOpen Tryd.prog) (hT : TabAt W) {f : Nat} {xs : List AV} {args : Array Value} (h : Ret P6 f xs (.bool true)) (hxs : VRels (nbT W.heap.size) (emb0 W) xs args.toList) :
   Calls Tryd.prog f args W fun e w' => e = .returned (.bool true) ∧ RowKit.Below W.heap.size W w' := by
 obtain ⟨N, hN⟩ := h
 have hgl := globals_le hsh
 have hp : 0 < W.heap.size := by
   have h1 : 0 < (Tryd.prog).globals.size := of_decide_eq_true (by kernel_rfl)
   omega
 exact row_runN (nb := nbT W.heap.size) rfl ⟨hp, hT⟩ hgl (by kernel_rfl) (own6_ok hgl fun w h => h.2) (hN N (Nat.le_refl _) heap0) hxs
end Go.Lite

/-
 A world in which the listed variables hold what is listed.
-/
namespace Go.Lite
open Go Go.Proofs Go.RowKit
def cellsLaid {H : Type} : DataW H → Array Value
 | .agg l => (l.map fun d => match d with | .lit (.int k n) => Value.int k n | _ => .bool false).toArray
 | _ => #[]
noncomputable def laidWorld (P : Program) (os : Os) (l : List (Nat × DataW Unit)) : World :=
 let w0 := World.holding P os ⟨#[], #[], []⟩
 { w0 with heap := l.foldl (fun h p => h.modify p.1 fun
     | .cells _ t frozen => .cells (cellsLaid p.2) t frozen
     | o => o) w0.heap }
end Go.Lite
