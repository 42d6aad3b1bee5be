/-
  Sealed calls by rewriting: what a function returns, whatever the heap; loops over lists; lists that grow.
-/
import Derived.Test.YtibjdfajafilhaaLSim
namespace Go.Lite
open Go
set_option linter.unusedVariables false
set_option linter.unusedSimpArgs false

/-! ### With enough rounds -/

/-- from some number of rounds on -/
def Ev (p : Nat → Prop) : Prop := ∃ N, ∀ n, N ≤ n → p n

theorem Ev.of {p : Nat → Prop} (h : ∀ n, p n) : Ev p := ⟨0, fun n _ => h n⟩
theorem Ev.mono {p q : Nat → Prop} (h : Ev p) (k : ∀ n, p n → q n) : Ev q := h.imp fun N hN n hn => k n (hN n hn)
theorem Ev.and {p q : Nat → Prop} (h : Ev p) (k : Ev q) : Ev fun n => p n ∧ q n := by
  obtain ⟨N, hN⟩ := h
  obtain ⟨M, hM⟩ := k
  exact ⟨N + M, fun n hn => ⟨hN n (by omega), hM n (by omega)⟩⟩
theorem Ev.ge (k : Nat) : Ev fun n => k ≤ n := ⟨k, fun n hn => hn⟩
theorem Ev.succ {p : Nat → Prop} (h : Ev fun n => p (n + 1)) : Ev p := by
  obtain ⟨N, hN⟩ := h
  refine ⟨N + 1, fun n hn => ?_⟩
  obtain ⟨m, rfl⟩ : ∃ m, n = m + 1 := ⟨n - 1, by omega⟩
  exact hN m (by omega)
theorem Ev.shift {p : Nat → Prop} (h : Ev p) : Ev fun n => p (n + 1) := by
  obtain ⟨N, hN⟩ := h
  exact ⟨N, fun n hn => hN (n + 1) (by omega)⟩
theorem Ev.all {α : Type} {p : α → Nat → Prop} : ∀ (l : List α), (∀ x ∈ l, Ev (p x)) → Ev fun n => ∀ x ∈ l, p x n
  | [], _ => Ev.of fun n x hx => by cases hx
  | x :: l, h => ((h x (by simp)).and (Ev.all l fun y hy => h y (by simp [hy]))).mono fun n hn y hy => by
    rcases List.mem_cons.1 hy with e | e
    · rw [e]; exact hn.1
    · exact hn.2 y e

/-- The call comes to the value, whatever the heap, and leaves the heap as it is. -/
def Ret (P : Prg) (f : FuncId) (xs : List AV) (v : AV) : Prop := Ev fun n => ∀ H, callN P n f xs H = some (.ret v, H)

/-- A sealed function's run ends in a value. -/
def Ends (r : R) (v : AV) : Prop := Gives r fun v0 H' => ∃ H'', shutV v0 H' = some (v, H'')

theorem Ret.of {P : Prg} {f : FuncId} {xs : List AV} {v : AV} {sf : SFunc} (ho : P.own f = none) (hc : P.code f = some sf) (hs : P.mode f = 2) (hl : Nat.ble xs.length sf.nt = true) (ha : ∀ H, mapHM shutV xs H = some (xs, H))
    (h : Ev fun n => ∀ H : Heap, Ends (sf.body.run (callN P n) n (initFr xs) H.bare (finish sf.res)) v) : Ret P f xs v := by
  refine Ev.succ (h.mono fun n hn H => ?_)
  obtain ⟨v0, H', h1, H'', h2⟩ := hn H
  simp only [callN, ho, hc, hl, hs, cond_true, ha, Option.bind_some, h1, opened, h2, Option.map_some]

/-- a call whose arguments are told as content already -/
def callS (P : Prg) (n : Nat) (f : FuncId) : Option (List AV × Heap) → R
  | some (ys, H) => callN P n f ys H
  | none => none

theorem k_callS {P : Prg} {n : Nat} {f : FuncId} {ys : List AV} {H : Heap} : callS P n f (some (ys, H)) = callN P n f ys H := rfl

theorem canon_L {f : Bool} {es n : Nat} {cs : List AV} : canon (.L f es cs n) = some (.L f es cs n) := by
  cases n <;> rfl
theorem shutC_L {f : Bool} {es n d : Nat} {cs : List AV} {H : Heap} : shutC d (.L f es cs n) H = some (.L f es cs n, H) := by
  cases n <;> cases d <;> rfl

/-- what is told as content, is told so once more -/
def Told (f : AV → Heap → Option (AV × Heap)) : Prop := ∀ x H y H', f x H = some (y, H') → ∀ H2, f y H2 = some (y, H2)

theorem mapHM_told {f : AV → Heap → Option (AV × Heap)} (hf : Told f) : ∀ (xs : List AV) (H : Heap) (ys : List AV) (H' : Heap), mapHM f xs H = some (ys, H') → ∀ H2, mapHM f ys H2 = some (ys, H2)
  | [], H, ys, H', h, H2 => by
    simp only [mapHM, Option.some.injEq, Prod.mk.injEq] at h
    obtain ⟨rfl, rfl⟩ := h
    rfl
  | x :: xs, H, ys, H', h, H2 => by
    simp only [mapHM, Option.bind_eq_some_iff, Option.map_eq_some_iff, Prod.mk.injEq] at h
    obtain ⟨⟨y, H1⟩, h1, ⟨zs, H3⟩, h2, rfl, rfl⟩ := h
    simp only [mapHM, hf x H y H1 h1 H2, Option.bind_some, mapHM_told hf xs H1 zs H3 h2 H2, Option.map_some]

theorem canon_told {x y : AV} (h : canon x = some y) : ∀ d H, shutC d y H = some (y, H) := by
  have key : canon y = some y ∧ ∀ k o n c, y ≠ .slice (.new k) o n c := by
    unfold canon at h
    split at h
    · simp only [Option.some.injEq] at h; subst h; exact ⟨rfl, by simp⟩
    · simp only [Option.some.injEq] at h; subst h; exact ⟨rfl, by simp⟩
    · rename_i es n f cs
      simp only [Option.some.injEq] at h; subst h
      cases n <;> exact ⟨rfl, by simp [AV.L]⟩
    · split at h
      case isFalse => cases h
      rename_i hp
      simp only [Option.some.injEq] at h; subst h
      refine ⟨?_, fun k o n c e => by subst e; simp [AV.pure, Blk.pure] at hp⟩
      unfold canon
      split
      · rename_i hno _ _; exact (hno rfl).elim
      · rename_i hno _; exact (hno rfl).elim
      · rename_i hno; exact (hno _ _ _ _ rfl).elim
      · rw [if_pos hp]
  intro d H
  cases d with
  | zero => simp only [shutC, key.1, Option.map_some]
  | succ d =>
    unfold shutC
    split
    · exact absurd rfl (key.2 _ _ _ _)
    · simp only [key.1, Option.map_some]

theorem shutC_told : ∀ d, ∀ x H y H', shutC d x H = some (y, H') → ∀ d2 H2, shutC d2 y H2 = some (y, H2)
  | 0 => fun x H y H' h d2 H2 => by
    simp only [shutC, Option.map_eq_some_iff, Prod.mk.injEq] at h
    obtain ⟨z, hz, rfl, _⟩ := h
    exact canon_told hz d2 H2
  | d + 1 => fun x H y H' h d2 H2 => by
    simp only [shutC] at h
    split at h
    · unfold shutRow at h
      split at h
      case h_2 => cases h
      split at h
      case isFalse => cases h
      simp only [Option.map_eq_some_iff, Prod.mk.injEq] at h
      obtain ⟨⟨zs, H3⟩, hz, rfl, _⟩ := h
      exact shutC_L
    · simp only [Option.map_eq_some_iff, Prod.mk.injEq] at h
      obtain ⟨z, hz, rfl, _⟩ := h
      exact canon_told hz d2 H2

theorem shutC4_told : Told (shutC 64) := fun x H y H' h H2 => shutC_told 64 x H y H' h 64 H2

/-- no struct, no function, no tuple, no interface value -/
def AV.one : AV → Bool
  | .agg _ | .func _ _ | .tuple _ | .iface _ _ => false
  | _ => true

theorem L_one {f : Bool} {es n : Nat} {cs : List AV} : (AV.L f es cs n).one = true := by cases n <;> rfl

theorem shutC_one {d : Nat} {x y : AV} {H H' : Heap} (h : shutC d x H = some (y, H')) (hx : x.one = true) : y.one = true := by
  have key : ∀ {z : AV}, canon x = some z → z.one = true := fun {z} hz => by
    unfold canon at hz
    split at hz
    · simp only [Option.some.injEq] at hz; subst hz; rfl
    · simp only [Option.some.injEq] at hz; subst hz; rfl
    · rename_i es n f cs
      simp only [Option.some.injEq] at hz; subst hz
      cases n <;> rfl
    · split at hz
      case isFalse => cases hz
      simp only [Option.some.injEq] at hz; subst hz
      exact hx
  cases d with
  | zero =>
    simp only [shutC, Option.map_eq_some_iff, Prod.mk.injEq] at h
    obtain ⟨z, hz, rfl, _⟩ := h
    exact key hz
  | succ d =>
    unfold shutC at h
    split at h
    · unfold shutRow at h
      split at h
      case h_2 => cases h
      split at h
      case isFalse => cases h
      simp only [Option.map_eq_some_iff, Prod.mk.injEq] at h
      obtain ⟨⟨zs, H3⟩, hz, rfl, _⟩ := h
      exact L_one
    · simp only [Option.map_eq_some_iff, Prod.mk.injEq] at h
      obtain ⟨z, hz, rfl, _⟩ := h
      exact key hz

theorem shutA_eq {x : AV} {H : Heap} (hx : x.one = true) : shutA x H = shutC 64 x H := by
  cases x <;> first | rfl | (simp [AV.one] at hx)

theorem shutV_eq {x : AV} {H : Heap} (hx : x.one = true) : shutV x H = shutC 64 x H := by
  cases x <;> first | rfl | (simp [AV.one] at hx)

theorem shutA_told : Told Lite.shutA := fun x H y H' h H2 => by
  by_cases hx : x.one = true
  · rw [shutA_eq hx] at h
    rw [shutA_eq (shutC_one h hx)]
    exact shutC4_told x H y H' h H2
  · cases x <;> first | (exact absurd rfl hx) | skip
    case agg cs =>
      simp only [Lite.shutA, Option.map_eq_some_iff, Prod.mk.injEq] at h
      obtain ⟨⟨zs, H3⟩, hz, rfl, _⟩ := h
      simp only [Lite.shutA, mapHM_told shutC4_told _ _ _ _ hz H2, Option.map_some]
    case func f cs =>
      simp only [Lite.shutA, Option.map_eq_some_iff, Prod.mk.injEq] at h
      obtain ⟨⟨zs, H3⟩, hz, rfl, _⟩ := h
      simp only [Lite.shutA, mapHM_told shutC4_told _ _ _ _ hz H2, Option.map_some]
    case iface t v =>
      have h' : (canon (.iface t v)).map (fun z => (z, H)) = some (y, H') := h
      simp only [Option.map_eq_some_iff, Prod.mk.injEq] at h'
      obtain ⟨z, hz, rfl, _⟩ := h'
      have hc : ∀ H, shutC 64 z H = some (z, H) := canon_told hz 64
      have : z = .iface t v := by
        unfold canon at hz
        split at hz <;> simp_all
      subst this
      exact hc H2
    case tuple vs =>
      have h' : (canon (.tuple vs)).map (fun z => (z, H)) = some (y, H') := h
      simp only [Option.map_eq_some_iff, Prod.mk.injEq] at h'
      obtain ⟨z, hz, rfl, _⟩ := h'
      have hc : ∀ H, shutC 64 z H = some (z, H) := canon_told hz 64
      have : z = .tuple vs := by
        unfold canon at hz
        split at hz <;> simp_all
      subst this
      exact hc H2

theorem shutV_told : Told shutV := fun x H y H' h H2 => by
  by_cases hx : x.one = true
  · rw [shutV_eq hx] at h
    rw [shutV_eq (shutC_one h hx)]
    exact shutC4_told x H y H' h H2
  · cases x <;> first | (exact absurd rfl hx) | skip
    case agg cs =>
      have h' : Lite.shutA (.agg cs) H = some (y, H') := h
      have h3 := shutA_told _ _ _ _ h' H2
      simp only [Lite.shutA, Option.map_eq_some_iff, Prod.mk.injEq] at h'
      obtain ⟨⟨zs, H3⟩, hz, rfl, _⟩ := h'
      exact h3
    case func f cs =>
      have h' : Lite.shutA (.func f cs) H = some (y, H') := h
      have h3 := shutA_told _ _ _ _ h' H2
      simp only [Lite.shutA, Option.map_eq_some_iff, Prod.mk.injEq] at h'
      obtain ⟨⟨zs, H3⟩, hz, rfl, _⟩ := h'
      exact h3
    case iface t v =>
      simp only [shutV, Option.map_eq_some_iff, Prod.mk.injEq] at h
      obtain ⟨⟨z, H3⟩, hz, rfl, _⟩ := h
      simp only [shutV, shutA_told _ _ _ _ hz H2, Option.map_some]
    case tuple vs =>
      simp only [shutV, Option.map_eq_some_iff, Prod.mk.injEq] at h
      obtain ⟨⟨zs, H3⟩, hz, rfl, _⟩ := h
      simp only [shutV, mapHM_told shutA_told _ _ _ _ hz H2, Option.map_some]

theorem mapHM_len {f : AV → Heap → Option (AV × Heap)} : ∀ (xs : List AV) (H : Heap) (ys : List AV) (H' : Heap), mapHM f xs H = some (ys, H') → ys.length = xs.length
  | [], H, ys, H', h => by
    simp only [mapHM, Option.some.injEq, Prod.mk.injEq] at h
    obtain ⟨rfl, rfl⟩ := h
    rfl
  | x :: xs, H, ys, H', h => by
    simp only [mapHM, Option.bind_eq_some_iff, Option.map_eq_some_iff, Prod.mk.injEq] at h
    obtain ⟨⟨y, H1⟩, h1, ⟨zs, H3⟩, h2, rfl, rfl⟩ := h
    simp [mapHM_len xs H1 zs H3 h2]

/-- a list as it is -/
theorem gives_settled {r : R} {Q : AV → Heap → Prop} (h : Gives r fun v0 H' => ∃ v H'', shutV v0 H' = some (v, H'') ∧ Q v H'') : Gives (settled r) Q := by
  obtain ⟨v0, H', rfl, v, H'', h1, h2⟩ := h
  exact ⟨v, H'', by simp only [settled, h1, Option.map_some], h2⟩

/-- arguments are told as content ahead of such a call -/
theorem callV_s {P : Prg} {n : Nat} {f : FuncId} {caps xs : List AV} {H : Heap} (ho : P.own f = none) (hs : P.mode f = 2) : callV (callN P n) (.func f caps) xs H = callS P n f (mapHM shutV (xs ++ caps) H) := by
  show callN P n f (xs ++ caps) H = _
  generalize xs ++ caps = zs
  cases n with
  | zero =>
    cases mapHM shutV zs H with
    | none => rfl
    | some q => rfl
  | succ n =>
    cases hm : mapHM shutV zs H with
    | none =>
      simp only [callS, callN, ho]
      cases P.code f with
      | none => rfl
      | some sf =>
        simp only []
        cases Nat.ble zs.length sf.nt with
        | false => rfl
        | true =>
          simp only [cond_true]
          rw [hs, hm]; rfl
    | some q =>
      obtain ⟨ys, H1⟩ := q
      have ht := mapHM_told shutV_told _ _ _ _ hm H1
      have hl := mapHM_len _ _ _ _ hm
      simp only [callS, callN, ho, hl]
      cases P.code f with
      | none => rfl
      | some sf =>
        simp only []
        cases Nat.ble zs.length sf.nt with
        | false => rfl
        | true =>
          simp only [cond_true]
          rw [hs]
          show (mapHM shutV zs H).bind _ = (mapHM shutV ys H1).bind _
          rw [hm, ht]

/-- a call whose arguments are told as content where that can be, and its result -/
def call1 (P : Prg) (n : Nat) (f : FuncId) (ys : List AV) (H : Heap) : R :=
  match n, P.code f with
  | m + 1, some sf => bif Nat.ble ys.length sf.nt then settled (sf.body.run (callN P m) m (initFr ys) H (finish sf.res)) else none
  | _, _ => none

theorem call1_code {P : Prg} {n : Nat} {f : FuncId} {ys : List AV} {H : Heap} {sf : SFunc} (hc : P.code f = some sf) (hl : Nat.ble ys.length sf.nt = true) : call1 P (n + 1) f ys H = settled (sf.body.run (callN P n) n (initFr ys) H (finish sf.res)) := by
  simp only [call1, hc, hl, cond_true]

def call1S (P : Prg) (n : Nat) (f : FuncId) : Option (List AV × Heap) → R
  | some (ys, H) => call1 P n f ys H
  | none => none
theorem k_call1S {P : Prg} {n : Nat} {f : FuncId} {ys : List AV} {H : Heap} : call1S P n f (some (ys, H)) = call1 P n f ys H := rfl

theorem callV_1 {P : Prg} {n : Nat} {f : FuncId} {caps xs : List AV} {H : Heap} (ho : P.own f = none) (hs : P.mode f = 1) : callV (callN P n) (.func f caps) xs H = call1S P n f (mapHM softV (xs ++ caps) H) := by
  show callN P n f (xs ++ caps) H = _
  generalize xs ++ caps = zs
  cases n with
  | zero =>
    cases mapHM softV zs H with
    | none => rfl
    | some q => rfl
  | succ n =>
    simp only [callN, ho, hs]
    cases hm : mapHM softV zs H with
    | none =>
      cases P.code f with
      | none => rfl
      | some sf =>
        simp only []
        cases Nat.ble zs.length sf.nt <;> rfl
    | some q =>
      obtain ⟨ys, H1⟩ := q
      have hl := mapHM_len _ _ _ _ hm
      simp only [call1S, call1]
      cases P.code f with
      | none => rfl
      | some sf => simp only [hl, Option.bind_some]

/-- a call whose arguments are told as content where that can be -/
def call3 (P : Prg) (n : Nat) (f : FuncId) (ys : List AV) (H : Heap) : R :=
  match n, P.code f with
  | m + 1, some sf => bif Nat.ble ys.length sf.nt then sf.body.run (callN P m) m (initFr ys) H (finish sf.res) else none
  | _, _ => none

theorem call3_code {P : Prg} {n : Nat} {f : FuncId} {ys : List AV} {H : Heap} {sf : SFunc} (hc : P.code f = some sf) (hl : Nat.ble ys.length sf.nt = true) : call3 P (n + 1) f ys H = sf.body.run (callN P n) n (initFr ys) H (finish sf.res) := by
  simp only [call3, hc, hl, cond_true]

def call3S (P : Prg) (n : Nat) (f : FuncId) : Option (List AV × Heap) → R
  | some (ys, H) => call3 P n f ys H
  | none => none
theorem k_call3S {P : Prg} {n : Nat} {f : FuncId} {ys : List AV} {H : Heap} : call3S P n f (some (ys, H)) = call3 P n f ys H := rfl

theorem callV_3 {P : Prg} {n : Nat} {f : FuncId} {caps xs : List AV} {H : Heap} (ho : P.own f = none) (hs : P.mode f = 3) : callV (callN P n) (.func f caps) xs H = call3S P n f (mapHM softV (xs ++ caps) H) := by
  show callN P n f (xs ++ caps) H = _
  generalize xs ++ caps = zs
  cases n with
  | zero =>
    cases mapHM softV zs H with
    | none => rfl
    | some q => rfl
  | succ n =>
    simp only [callN, ho, hs]
    cases hm : mapHM softV zs H with
    | none =>
      cases P.code f with
      | none => rfl
      | some sf =>
        simp only []
        cases Nat.ble zs.length sf.nt <;> rfl
    | some q =>
      obtain ⟨ys, H1⟩ := q
      have hl := mapHM_len _ _ _ _ hm
      simp only [call3S, call3]
      cases P.code f with
      | none => rfl
      | some sf => simp only [hl, Option.bind_some]

/-- a call whose arguments are told as content where that can be; what it calls of itself is sealed -/
def call4 (P : Prg) (n : Nat) (f : FuncId) (ys : List AV) (H : Heap) : R :=
  match n, P.code f with
  | m + 1, some sf => bif Nat.ble ys.length sf.nt then sf.body.run (callN (P.seal f) m) m (initFr ys) H (finish sf.res) else none
  | _, _ => none

theorem call4_code {P : Prg} {n : Nat} {f : FuncId} {ys : List AV} {H : Heap} {sf : SFunc} (hc : P.code f = some sf) (hl : Nat.ble ys.length sf.nt = true) : call4 P (n + 1) f ys H = sf.body.run (callN (P.seal f) n) n (initFr ys) H (finish sf.res) := by
  simp only [call4, hc, hl, cond_true]

def call4S (P : Prg) (n : Nat) (f : FuncId) : Option (List AV × Heap) → R
  | some (ys, H) => call4 P n f ys H
  | none => none
theorem k_call4S {P : Prg} {n : Nat} {f : FuncId} {ys : List AV} {H : Heap} : call4S P n f (some (ys, H)) = call4 P n f ys H := rfl

theorem callV_4 {P : Prg} {n : Nat} {f : FuncId} {caps xs : List AV} {H : Heap} (ho : P.own f = none) (hs : P.mode f = 4) : callV (callN P n) (.func f caps) xs H = call4S P n f (mapHM softV (xs ++ caps) H) := by
  show callN P n f (xs ++ caps) H = _
  generalize xs ++ caps = zs
  cases n with
  | zero =>
    cases mapHM softV zs H with
    | none => rfl
    | some q => rfl
  | succ n =>
    simp only [callN, ho, hs]
    cases hm : mapHM softV zs H with
    | none =>
      cases P.code f with
      | none => rfl
      | some sf =>
        simp only []
        cases Nat.ble zs.length sf.nt <;> rfl
    | some q =>
      obtain ⟨ys, H1⟩ := q
      have hl := mapHM_len _ _ _ _ hm
      simp only [call4S, call4]
      cases P.code f with
      | none => rfl
      | some sf => simp only [hl, Option.bind_some]

theorem callV_r {P : Prg} {n : Nat} {f : FuncId} {caps xs : List AV} {H : Heap} : callV (callN P n) (.func f caps) xs H = callN P n f (xs ++ caps) H := rfl

/-! ### Lists of content -/

/-- a list; 'f': of none it is known that nothing lies behind -/
def vList {α : Type} (f : Bool) (es : Nat) (g : α → List AV) (l : List α) : AV := .L f es (l.flatMap g) l.length

theorem vList_nil {α : Type} {f : Bool} {es : Nat} {g : α → List AV} : vList f es g [] = .lst 0 0 f [] := rfl
theorem vList_cons {α : Type} {f : Bool} {es : Nat} {g : α → List AV} {x : α} {l : List α} : vList f es g (x :: l) = .lst es (l.length + 1) false (g x ++ l.flatMap g) := rfl

theorem len_vList {α : Type} {f : Bool} {es : Nat} {g : α → List AV} {l : List α} : lenM (vList f es g l) = some (.int .i64 l.length) := by
  cases l <;> rfl

theorem flat_len {α : Type} {es : Nat} {g : α → List AV} (hg : ∀ x, (g x).length = es) : ∀ l : List α, (l.flatMap g).length = l.length * es
  | [] => by simp
  | x :: l => by simp [flat_len hg l, hg, Nat.add_mul]; omega

theorem flat_at {α : Type} {es : Nat} {g : α → List AV} (hg : ∀ x, (g x).length = es) : ∀ (l : List α) (j : Nat), ((l.flatMap g).drop (j * es)).take es = match l[j]? with | some x => g x | none => []
  | [], j => by simp
  | x :: l, 0 => by
    simp only [List.flatMap_cons, Nat.zero_mul, List.drop_zero, List.getElem?_cons_zero]
    rw [List.take_append_of_le_length (by rw [hg]; exact Nat.le_refl _), ← hg x, List.take_length]
  | x :: l, j + 1 => by
    simp only [List.flatMap_cons, List.getElem?_cons_succ]
    rw [List.drop_append, List.drop_eq_nil_of_le (by rw [hg, Nat.add_mul]; omega), hg, Nat.add_mul]
    have := flat_at hg l j
    simpa [Nat.add_sub_cancel] using this

theorem flat_drop {α : Type} {es : Nat} {g : α → List AV} (hg : ∀ x, (g x).length = es) (l : List α) (j : Nat) : (l.flatMap g).drop (j * es) = (l.drop j).flatMap g := by
  induction j generalizing l with
  | zero => simp
  | succ j ih =>
    cases l with
    | nil => simp
    | cons x l =>
      simp only [List.flatMap_cons, List.drop_succ_cons]
      rw [List.drop_append, List.drop_eq_nil_of_le (by rw [hg, Nat.add_mul]; omega), hg, Nat.add_mul]
      simpa [Nat.add_sub_cancel] using ih l

theorem flat_take {α : Type} {es : Nat} {g : α → List AV} (hg : ∀ x, (g x).length = es) (l : List α) (j : Nat) : (l.flatMap g).take (j * es) = (l.take j).flatMap g := by
  induction j generalizing l with
  | zero => simp
  | succ j ih =>
    cases l with
    | nil => simp
    | cons x l =>
      simp only [List.flatMap_cons, List.take_succ_cons]
      rw [List.take_append, List.take_of_length_le (by rw [hg, Nat.add_mul]; omega), hg, Nat.add_mul]
      simpa [Nat.add_sub_cancel] using ih l

theorem iaddr_vList {α : Type} {f : Bool} {es : Nat} {g : α → List AV} (hg : ∀ x, (g x).length = es) {l : List α} {j : Nat} : iaddrV es (vList f es g l) j = (l[j]?).map fun x => .ptr (.val (g x)) 0 := by
  cases l with
  | nil => simp [vList, AV.L, iaddrV]
  | cons x l =>
    simp only [vList_cons, iaddrV]
    by_cases hj : j < l.length + 1
    · rw [if_pos ⟨hj, trivial⟩]
      have := flat_at hg (x :: l) j
      rw [List.flatMap_cons] at this
      rw [this]
      have hx : (x :: l)[j]? = some ((x :: l)[j]'(by simpa using hj)) := List.getElem?_eq_getElem _
      rw [hx]
      rfl
    · rw [if_neg (fun h => hj h.1)]
      have : (x :: l)[j]? = none := List.getElem?_eq_none (by simp; omega)
      rw [this]; rfl

theorem iaddr_at {α : Type} {f : Bool} {es : Nat} {g : α → List AV} (hg : ∀ x, (g x).length = es) {l : List α} {j : Nat} {x : α} (h : l[j]? = some x) : iaddrV es (vList f es g l) j = some (.ptr (.val (g x)) 0) := by
  rw [iaddr_vList hg, h]; rfl

theorem taken_vList {α : Type} {f : Bool} {es : Nat} {g : α → List AV} {l : List α} {H : Heap} : taken es H (vList f es g l) = some (l.length, l.flatMap g) := by
  cases l with
  | nil => simp [vList, AV.L, taken]
  | cons x l => simp [vList_cons, taken]

theorem shutC_vList {α : Type} {f : Bool} {es d : Nat} {g : α → List AV} {l : List α} {H : Heap} : shutC d (vList f es g l) H = some (vList f es g l, H) := shutC_L
theorem shutC_int {d : Nat} {k : IntKind} {n : Int} {H : Heap} : shutC d (.int k n) H = some (.int k n, H) := by cases d <;> rfl
theorem shutC_str {d : Nat} {s : List Nat} {H : Heap} : shutC d (.str s) H = some (.str s, H) := by cases d <;> rfl
theorem shutC_bool {d : Nat} {b : Bool} {H : Heap} : shutC d (.bool b) H = some (.bool b, H) := by cases d <;> rfl
theorem shutC_nils {d : Nat} {H : Heap} : shutC d .nils H = some (.lst 0 0 true [], H) := by cases d <;> rfl
theorem shutC_lst {d es n : Nat} {cs : List AV} {H : Heap} : shutC d (.lst es (n + 1) false cs) H = some (.lst es (n + 1) false cs, H) := by cases d <;> rfl
theorem shutC_lst0 {d : Nat} {f : Bool} {H : Heap} : shutC d (.lst 0 0 f []) H = some (.lst 0 0 f [], H) := by cases d <;> rfl
theorem shutC_func {d : Nat} {f : FuncId} {H : Heap} : shutC d (.func f []) H = some (.func f [], H) := by cases d <;> rfl
theorem shutV_agg {cs : List AV} {H : Heap} : shutV (.agg cs) H = (mapHM (shutC 64) cs H).map fun q => (.agg q.1, q.2) := rfl
theorem shutV_tuple {cs : List AV} {H : Heap} : shutV (.tuple cs) H = (mapHM shutA cs H).map fun q => (.tuple q.1, q.2) := rfl
theorem shutA_agg {cs : List AV} {H : Heap} : shutA (.agg cs) H = (mapHM (shutC 64) cs H).map fun q => (.agg q.1, q.2) := rfl
theorem shutV_int {k : IntKind} {n : Int} {H : Heap} : shutV (.int k n) H = some (.int k n, H) := rfl
theorem shutV_str {s : List Nat} {H : Heap} : shutV (.str s) H = some (.str s, H) := rfl
theorem shutV_bool {b : Bool} {H : Heap} : shutV (.bool b) H = some (.bool b, H) := rfl
theorem shutV_L {f : Bool} {es n : Nat} {cs : List AV} {H : Heap} : shutV (.L f es cs n) H = some (.L f es cs n, H) := by cases n <;> rfl
theorem shutV_vList {α : Type} {f : Bool} {es : Nat} {g : α → List AV} {l : List α} {H : Heap} : shutV (vList f es g l) H = some (vList f es g l, H) := shutV_L
theorem shutV_nils {H : Heap} : shutV .nils H = some (.lst 0 0 true [], H) := rfl
theorem shutV_func {f : FuncId} {H : Heap} : shutV (.func f []) H = some (.func f [], H) := rfl
theorem softV_some {v : AV} {H : Heap} {q : AV × Heap} (h : shutV v H = some q) : softV v H = some q := by simp only [softV, h]
theorem softV_int {k : IntKind} {n : Int} {H : Heap} : softV (.int k n) H = some (.int k n, H) := rfl
theorem softV_str {s : List Nat} {H : Heap} : softV (.str s) H = some (.str s, H) := rfl
theorem softV_bool {b : Bool} {H : Heap} : softV (.bool b) H = some (.bool b, H) := rfl
theorem softV_ptr {k o : Nat} {H : Heap} : softV (.ptr (.new k) o) H = some (.ptr (.new k) o, H) := rfl
theorem softV_nilp {H : Heap} : softV .nilp H = some (.nilp, H) := rfl
theorem softV_nils {H : Heap} : softV .nils H = some (.lst 0 0 true [], H) := rfl
theorem softV_vList {α : Type} {f : Bool} {es : Nat} {g : α → List AV} {l : List α} {H : Heap} : softV (vList f es g l) H = some (vList f es g l, H) := softV_some shutV_L
def softM (v : AV) (H : Heap) : Option (AV × Heap) → Option (AV × Heap)
  | some q => some q
  | none => some (v, H)
theorem softV_agg {cs : List AV} {H : Heap} : softV (.agg cs) H = softM (.agg cs) H (shutV (.agg cs) H) := rfl
theorem k_softM {v : AV} {H : Heap} {q : AV × Heap} : softM v H (some q) = some q := rfl
theorem k_softM0 {v : AV} {H : Heap} : softM v H none = some (v, H) := rfl
theorem shutV_slice {k o n : Nat} {c : Cap} {H : Heap} : shutV (.slice (.new k) o n c) H = shutC 64 (.slice (.new k) o n c) H := rfl
theorem shutA_int {k : IntKind} {n : Int} {H : Heap} : shutA (.int k n) H = some (.int k n, H) := rfl
theorem shutA_str {s : List Nat} {H : Heap} : shutA (.str s) H = some (.str s, H) := rfl
theorem shutA_bool {b : Bool} {H : Heap} : shutA (.bool b) H = some (.bool b, H) := rfl
theorem shutA_vList {α : Type} {f : Bool} {es : Nat} {g : α → List AV} {l : List α} {H : Heap} : shutA (vList f es g l) H = some (vList f es g l, H) := by cases l <;> rfl
theorem shutA_slice {k o n : Nat} {c : Cap} {H : Heap} : shutA (.slice (.new k) o n c) H = shutC 64 (.slice (.new k) o n c) H := rfl
theorem shutA_nils {H : Heap} : shutA .nils H = some (.lst 0 0 true [], H) := rfl
theorem mapHM_nil {f : AV → Heap → Option (AV × Heap)} {H : Heap} : mapHM f [] H = some ([], H) := rfl
theorem mapHM_cons {f : AV → Heap → Option (AV × Heap)} {v : AV} {vs : List AV} {H : Heap} : mapHM f (v :: vs) H = (f v H).bind fun q => (mapHM f vs q.2).map fun r => (q.1 :: r.1, r.2) := rfl

theorem canonL_nil : canonL [] = some [] := rfl
theorem canonL_cons {c : AV} {cs : List AV} : canonL (c :: cs) = (canon c).bind fun y => (canonL cs).map (y :: ·) := rfl
theorem canon_int {k : IntKind} {n : Int} : canon (.int k n) = some (.int k n) := rfl
theorem canon_str {s : List Nat} : canon (.str s) = some (.str s) := rfl
theorem canon_bool {b : Bool} : canon (.bool b) = some (.bool b) := rfl
theorem canon_nils : canon .nils = some (.lst 0 0 true []) := rfl
theorem canon_nilp : canon .nilp = some .nilp := rfl
theorem canon_lst {es n : Nat} {f : Bool} {cs : List AV} : canon (.lst es n f cs) = some (.L f es cs n) := rfl
theorem canon_vList {α : Type} {f : Bool} {es : Nat} {g : α → List AV} {l : List α} : canon (vList f es g l) = some (vList f es g l) := canon_L
theorem canon_row {k o n : Nat} {c : Cap} : canon (.slice (.new k) o n c) = none := rfl
theorem canon_ptr {k o : Nat} : canon (.ptr (.new k) o) = none := rfl
theorem canon_ptrV {cs : List AV} {o : Nat} : canon (.ptr (.val cs) o) = some (.ptr (.val cs) o) := rfl
theorem lay_nil : layOf [] = some [] := rfl
theorem lay_cons {c : AV} {cs : List AV} : layOf (c :: cs) = (keepK c).bind fun y => (layOf cs).map (y :: ·) := rfl
theorem keep_int {k : IntKind} {n : Int} : keepK (.int k n) = some (.int k n) := rfl
theorem keep_str {s : List Nat} : keepK (.str s) = some (.str s) := rfl
theorem keep_bool {b : Bool} : keepK (.bool b) = some (.bool b) := rfl
theorem keep_nils : keepK .nils = some (.lst 0 0 true []) := rfl
theorem keep_nilp : keepK .nilp = some .nilp := rfl
theorem keep_lst0 {es : Nat} {f : Bool} {cs : List AV} : keepK (.lst es 0 f cs) = some (.L f es cs 0) := by cases f <;> rfl
theorem keep_lst1 {es n : Nat} {cs : List AV} : keepK (.lst es (n + 1) false cs) = some (.L false es cs (n + 1)) := rfl
theorem keep_lst2 {es n : Nat} {cs : List AV} : keepK (.lst es (n + 1) true cs) = none := rfl
theorem keep_vList {α : Type} {f : Bool} {es : Nat} {g : α → List AV} {l : List α} : keepK (vList f es g l) = some (vList f es g l) := by
  cases l with
  | nil => cases f <;> rfl
  | cons x l => rfl
theorem keep_row {k o n : Nat} {c : Cap} : keepK (.slice (.new k) o n c) = none := rfl
theorem keep_ptr {k o : Nat} : keepK (.ptr (.new k) o) = none := rfl
theorem keep_ptrV {cs : List AV} {o : Nat} : keepK (.ptr (.val cs) o) = some (.ptr (.val cs) o) := rfl
theorem L_zero {f : Bool} {es : Nat} {cs : List AV} : AV.L f es cs 0 = .lst 0 0 f [] := rfl
theorem L_succ {f : Bool} {es n : Nat} {cs : List AV} : AV.L f es cs (n + 1) = .lst es (n + 1) false cs := rfl
theorem k_lay {k es n : Nat} {cs ds : List AV} : lay k es n cs (some ds) = (.row ds 0 true none, bif n == 0 then .lst 0 0 true [] else .lst es n true ds) := by
  simp only [lay, beq_lit]
theorem k_lay0 {k es n : Nat} {cs : List AV} : lay k es n cs none = (.row cs 0 false none, .slice (.new k) 0 n (.fix n es)) := rfl
theorem k_takenL {size es n : Nat} {f : Bool} {cs : List AV} {H : Heap} : taken size H (.lst es n f cs) = if es = size ∨ n = 0 then some (n, cs) else none := rfl
theorem iaddr_lst {size es n j : Nat} {f : Bool} {cs : List AV} : iaddrV size (.lst es n f cs) j = if j < n ∧ es = size then some (.ptr (.val ((cs.drop (j * es)).take es)) 0) else none := rfl
theorem iaddr_slice {size j n o : Nat} {p : Blk} {c : Cap} : iaddrV size (.slice p o n c) j = if j < n then some (.ptr p (o + j * size)) else none := rfl
theorem drop_take1 {cs : List AV} {j : Nat} : ((cs.drop (j * 1)).take 1)[0]? = cs[j]? := by
  rw [Nat.mul_one, List.getElem?_take_of_lt (by omega), List.getElem?_drop, Nat.add_zero]
theorem drop_take0 {cs : List AV} {j : Nat} : ((cs.drop j).take 1)[0]? = cs[j]? := by
  rw [List.getElem?_take_of_lt (by omega), List.getElem?_drop, Nat.add_zero]
theorem shutC_lstF {d es n : Nat} {f : Bool} {cs : List AV} {H : Heap} : shutC d (.lst es n f cs) H = some (.L f es cs n, H) := by cases d <;> rfl
theorem shutV_lstF {es n : Nat} {f : Bool} {cs : List AV} {H : Heap} : shutV (.lst es n f cs) H = some (.L f es cs n, H) := rfl
theorem shutA_lstF {es n : Nat} {f : Bool} {cs : List AV} {H : Heap} : shutA (.lst es n f cs) H = some (.L f es cs n, H) := rfl
theorem fl_lst {es n : Nat} {f : Bool} {cs : List AV} : (AV.lst es n f cs).flat = true := rfl

/-- cells that stay as they are -/
def Still (cs : List AV) : Prop := ∀ c ∈ cs, ∀ d H, shutC d c H = some (c, H)

theorem Still.nil : Still [] := fun c h => by cases h
theorem Still.cons {c : AV} {cs : List AV} (h : ∀ d H, shutC d c H = some (c, H)) (k : Still cs) : Still (c :: cs) := fun x hx => by
  rcases List.mem_cons.1 hx with e | e
  · rw [e]; exact h
  · exact k x e
theorem Still.append {xs ys : List AV} (h : Still xs) (k : Still ys) : Still (xs ++ ys) := fun c hc => (List.mem_append.1 hc).elim (h c) (k c)
theorem Still.map {cs : List AV} (h : Still cs) (d : Nat) (H : Heap) : mapHM (shutC d) cs H = some (cs, H) := by
  induction cs with
  | nil => rfl
  | cons c cs ih =>
    rw [mapHM_cons, h c (by simp) d H]
    simp only [Option.bind_some]
    rw [ih (fun x hx => h x (by simp [hx]))]
    rfl
theorem Still.flat {α : Type} {g : α → List AV} (hg : ∀ x, Still (g x)) (l : List α) : Still (l.flatMap g) := fun c hc => by
  obtain ⟨x, _, hx⟩ := List.mem_flatMap.1 hc
  exact hg x c hx
theorem Still.int (k : IntKind) (n : Int) : Still [.int k n] := .cons (fun _ _ => shutC_int) .nil
theorem Still.str (s : List Nat) : Still [.str s] := .cons (fun _ _ => shutC_str) .nil

/-! ### Lists that grow -/

/-- a list of n elements (of the type e, of es cells each) that is appended to: nothing yet, or a row, from block N on -/
def Acc (N : Nat) (H : Heap) (e es n : Nat) (cells : List AV) (v : AV) : Prop :=
  (n = 0 ∧ cells = [] ∧ v = .nils) ∨ (n ≠ 0 ∧ cells.length = n * es ∧ ∃ k, v = .slice (.new k) 0 n (.gro es) ∧ N ≤ k ∧ H.t.get k = some (.row cells es false (some e)))

theorem Acc.nil {N : Nat} {H : Heap} {e es : Nat} : Acc N H e es 0 [] .nils := .inl ⟨rfl, rfl, rfl⟩

/-- what is not appended to -/
def Firm (o : Obj) : Prop := ∀ cs es fz ty, o = .row cs es fz ty → es = 0

theorem firm_row {cs : List AV} {fz : Bool} {ty : Option Nat} : Firm (.row cs 0 fz ty) := fun _ _ _ _ e => by simp only [Obj.row.injEq] at e; exact e.2.1.symm
theorem firm_iter {s : List Nat} {p : Nat} : Firm (.iter s p) := fun _ _ _ _ e => by cases e

/-- what is there, stands below -/
def HLow (H : Heap) : Prop := ∀ k o, H.t.get k = some o → k < H.n

/-- Of two heaps, where what X does not speak of is the same. -/
structure HKeep (X : Nat → Obj → Prop) (H H' : Heap) : Prop where
  n : H.n ≤ H'.n
  get : ∀ j o, H.t.get j = some o → ¬ X j o → H'.t.get j = some o
  low : HLow H → HLow H'

/-- all but one block -/
def only (k : Nat) : Nat → Obj → Prop := fun j _ => j = k
/-- all but one block, and what is appended to -/
def firmBut (k : Nat) : Nat → Obj → Prop := fun j o => j = k ∨ ¬ Firm o
/-- all but what is appended to -/
def loose : Nat → Obj → Prop := fun _ o => ¬ Firm o
/-- all but a list's row -/
def blk (v : AV) : Nat → Obj → Prop := fun j _ => ∃ o n c, v = .slice (.new j) o n c

theorem HKeep.refl {X : Nat → Obj → Prop} {H : Heap} : HKeep X H H := ⟨Nat.le_refl _, fun _ _ h _ => h, fun h => h⟩
theorem HKeep.trans {X : Nat → Obj → Prop} {A B C : Heap} (h : HKeep X A B) (k : HKeep X B C) : HKeep X A C := ⟨Nat.le_trans h.n k.n, fun j o hj hx => k.get j o (h.get j o hj hx) hx, fun l => k.low (h.low l)⟩
theorem HKeep.mono {X Y : Nat → Obj → Prop} {A B : Heap} (h : HKeep X A B) (k : ∀ j o, A.t.get j = some o → X j o → Y j o) : HKeep Y A B := ⟨h.n, fun j o hj hy => h.get j o hj fun hx => hy (k j o hj hx), h.low⟩
theorem only_row {k j : Nat} {o : Obj} (h : j ≠ k) : ¬ only k j o := h
theorem firmBut_row {k j : Nat} {cs : List AV} {fz : Bool} {ty : Option Nat} (h : j ≠ k) : ¬ firmBut k j (.row cs 0 fz ty) := fun e => e.elim h fun e => e firm_row
theorem loose_row {j : Nat} {cs : List AV} {fz : Bool} {ty : Option Nat} : ¬ loose j (.row cs 0 fz ty) := fun e => e firm_row

theorem HLow.bare {H : Heap} : HLow H.bare := fun k o h => by cases h
theorem HLow.push {H : Heap} (h : HLow H) {ob : Obj} : HLow (H.push ob) := fun k o hk => by
  rw [h_get] at hk
  rw [h_n]
  split at hk
  · omega
  · have := h k o hk; omega
theorem HLow.put {H : Heap} (h : HLow H) {j : Nat} (hj : j < H.n) {ob : Obj} : HLow (H.put j ob) := fun k o hk => by
  rw [h_gput] at hk
  rw [h_nput]
  split at hk
  · omega
  · exact h k o hk
theorem HLow.del {H : Heap} (h : HLow H) {j : Nat} : HLow (H.del j) := fun k o hk => by
  rw [h_gdel] at hk
  rw [h_ndel]
  split at hk
  · cases hk
  · exact h k o hk
theorem HLow.lt {H : Heap} (h : HLow H) {k : Nat} {o : Obj} (hk : H.t.get k = some o) : k < H.n := h k o hk

theorem HKeep.push {X : Nat → Obj → Prop} {H : Heap} (l : HLow H) {ob : Obj} : HKeep X H (H.push ob) := ⟨by simp [h_n], fun j o hj _ => by rw [h_get, if_neg (by have := l j o hj; omega)]; exact hj, fun h => h.push⟩
theorem HKeep.put {X : Nat → Obj → Prop} {H : Heap} {j : Nat} (hj : ∀ o, X j o) (hn : j < H.n) {ob : Obj} : HKeep X H (H.put j ob) := ⟨Nat.le_refl _, fun k o hk hx => by rw [h_gput, if_neg (fun e => hx (by rw [e]; exact hj o))]; exact hk, fun h => h.put hn⟩
/-- .. one of the call's own is written -/
theorem HKeep.own {X : Nat → Obj → Prop} {H H2 : Heap} (h : HKeep X H H2) (l : HLow H) {j : Nat} (hj : H.n ≤ j) (hn : j < H2.n) {ob : Obj} : HKeep X H (H2.put j ob) :=
  ⟨h.n, fun k o hk hx => by rw [h_gput, if_neg (by have := l k o hk; omega)]; exact h.get k o hk hx, fun l => (h.low l).put hn⟩
theorem HKeep.pushed {X : Nat → Obj → Prop} {H H2 : Heap} (h : HKeep X H H2) (l : HLow H) {ob : Obj} : HKeep X H (H2.push ob) := h.trans (HKeep.push (h.low l))

theorem Acc.flat {N : Nat} {H : Heap} {e es n : Nat} {cells : List AV} {v : AV} (h : Acc N H e es n cells v) : v.flat = true := by
  rcases h with ⟨_, _, rfl⟩ | ⟨_, _, k, rfl, _⟩ <;> rfl

theorem Acc.len {N : Nat} {H : Heap} {e es n : Nat} {cells : List AV} {v : AV} (h : Acc N H e es n cells v) : lenM v = some (.int .i64 n) := by
  rcases h with ⟨rfl, _, rfl⟩ | ⟨_, _, k, rfl, _⟩ <;> rfl

/-- .. in another heap, that holds what it held -/
theorem Acc.keep {N : Nat} {H H' : Heap} {e es n : Nat} {cells : List AV} {v : AV} (h : Acc N H e es n cells v) (k : ∀ j o, blk v j o → H.t.get j = some (.row cells es false (some e)) → H'.t.get j = H.t.get j) : Acc N H' e es n cells v := by
  rcases h with h | ⟨h1, h2, j, rfl, h3, h4⟩
  · exact .inl h
  · exact .inr ⟨h1, h2, j, rfl, h3, (k j (.iter [] 0) ⟨_, _, _, rfl⟩ h4).trans h4⟩

theorem Acc.kept {X : Nat → Obj → Prop} {N : Nat} {H H' : Heap} {e es n : Nat} {cells : List AV} {v : AV} (h : Acc N H e es n cells v) (k : HKeep X H H') (hx : ∀ j, N ≤ j → H.t.get j = some (.row cells es false (some e)) → ¬ X j (.row cells es false (some e))) : Acc N H' e es n cells v := by
  rcases h with h | ⟨h1, h2, j, rfl, h3, h4⟩
  · exact .inl h
  · exact .inr ⟨h1, h2, j, rfl, h3, k.get j _ h4 (hx j h3 h4)⟩

theorem Acc.push {N : Nat} {H : Heap} {e es n : Nat} {cells : List AV} {v : AV} {ob : Obj} (h : Acc N H e es n cells v) (l : HLow H) : Acc N (H.push ob) e es n cells v :=
  h.keep fun j _ _ hj => by rw [h_get, if_neg (by have := l j _ hj; omega)]

theorem Acc.put {N : Nat} {H : Heap} {e es n : Nat} {cells : List AV} {v : AV} {ob : Obj} {k : Nat} (h : Acc N H e es n cells v) (hes : es ≠ 0) {cs : List AV} {fz : Bool} {ty : Option Nat} (hk : H.t.get k = some (.row cs 0 fz ty)) : Acc N (H.put k ob) e es n cells v :=
  h.keep fun j _ _ hj => by
    rw [h_gput, if_neg]
    rintro rfl
    rw [hk] at hj
    simp only [Option.some.injEq, Obj.row.injEq] at hj
    exact hes hj.2.1.symm

/-- what is not appended to stays where this list is appended to -/
theorem Acc.row {N : Nat} {H H' : Heap} {e es n : Nat} {cells : List AV} {v : AV} (h : Acc N H e es n cells v) (hes : es ≠ 0) (kp : HKeep (blk v) H H') {j : Nat} {cs : List AV} {fz : Bool} {ty : Option Nat} (hj : H.t.get j = some (.row cs 0 fz ty)) : H'.t.get j = some (.row cs 0 fz ty) := by
  refine kp.get j _ hj ?_
  rintro ⟨o, m, c, rfl⟩
  rcases h with ⟨_, _, h⟩ | ⟨_, _, k, h, _, h4⟩
  · cases h
  · simp only [AV.slice.injEq, Blk.new.injEq] at h
    rw [h.1] at hj
    rw [h4] at hj
    simp only [Option.some.injEq, Obj.row.injEq] at hj
    exact hes hj.2.1

/-- .. another list too, over another type -/
theorem Acc.other {N N' : Nat} {H H' : Heap} {e es n e' es' n' : Nat} {cells cells' : List AV} {v u : AV} (h : Acc N H e es n cells v) (k : Acc N' H e' es' n' cells' u) (he : e ≠ e') (kp : HKeep (blk v) H H') : Acc N' H' e' es' n' cells' u := by
  refine k.kept kp fun j _ hj => ?_
  rintro ⟨o, m, c, rfl⟩
  rcases h with ⟨_, _, h⟩ | ⟨_, _, k, h, _, h4⟩
  · cases h
  · simp only [AV.slice.injEq, Blk.new.injEq] at h
    rw [h.1] at hj
    rw [h4] at hj
    simp only [Option.some.injEq, Obj.row.injEq] at hj
    exact he hj.2.2.2

/-- .. and what stood ahead of it all -/
theorem Acc.keeps {X : Nat → Obj → Prop} {H H2 H' : Heap} {e es n : Nat} {cells : List AV} {v : AV} (h : Acc H.n H2 e es n cells v) (kp : HKeep X H H2) (l : HLow H) (kp' : HKeep (blk v) H2 H') : HKeep X H H' :=
  ⟨Nat.le_trans kp.n kp'.n, fun j o hj hx => kp'.get j o (kp.get j o hj hx) fun ⟨q, m, c, e⟩ => by
    subst e
    have := l j o hj
    rcases h with ⟨_, _, h⟩ | ⟨_, _, k, h, h3, _⟩
    · cases h
    · simp only [AV.slice.injEq, Blk.new.injEq] at h
      omega, fun l => kp'.low (kp.low l)⟩

theorem Acc.firm {N : Nat} {H H' : Heap} {e es n : Nat} {cells : List AV} {v : AV} (h : Acc N H e es n cells v) (hes : es ≠ 0) (kp : HKeep (blk v) H H') : HKeep loose H H' :=
  kp.mono fun j o hj ⟨q, m, c, ev⟩ => by
    subst ev
    rcases h with ⟨_, _, h⟩ | ⟨_, _, k, h, _, h4⟩
    · cases h
    · simp only [AV.slice.injEq, Blk.new.injEq] at h
      rw [h.1] at hj
      rw [h4] at hj
      simp only [Option.some.injEq] at hj
      subst hj
      exact fun f => hes (f _ _ _ _ rfl)

/-- .. is appended to -/
theorem Acc.more {N : Nat} {H : Heap} {e es bs n m : Nat} {cells ys : List AV} {v : AV} (h : Acc N H e es n cells v) (hN : N ≤ H.n) (hlow : HLow H) (hes : es ≠ 0) (hys : ys.length = m * es) (hfl : ys.all AV.flat = true) (hb : (n + m) * bs ≤ 1099511627776 ∧ n + m ≤ 1099511627776) :
    ∃ v' H', appendOf e es bs H v (m, ys) = some (v', H') ∧ Acc N H' e es (n + m) (cells ++ ys) v' ∧ HKeep (blk v) H H' ∧ HLow H' := by
  unfold appendOf
  rw [if_neg (by simp [hes, hfl])]
  rcases h with ⟨rfl, rfl, rfl⟩ | ⟨h1, h2, k, rfl, h5, h3⟩
  · simp only []
    by_cases hm : m = 0
    · subst hm
      rw [if_pos rfl]
      have : ys = [] := List.eq_nil_of_length_eq_zero (by simpa using hys)
      subst this
      exact ⟨_, _, rfl, .inl ⟨rfl, rfl, rfl⟩, HKeep.refl, hlow⟩
    · rw [if_neg hm, if_pos (by simpa using hb)]
      exact ⟨_, _, rfl, .inr ⟨by omega, by simpa using hys, H.n, by simp [Heap.fresh], hN, by simp [Heap.fresh, h_get]⟩, HKeep.push hlow, hlow.push⟩
  · simp only []
    by_cases hm : m = 0
    · subst hm
      rw [if_pos rfl]
      have : ys = [] := List.eq_nil_of_length_eq_zero (by simpa using hys)
      subst this
      exact ⟨_, _, rfl, .inr ⟨h1, by simpa using h2, k, rfl, h5, by simpa using h3⟩, HKeep.refl, hlow⟩
    · rw [if_neg hm, if_pos hb]
      simp only [if_true, h3]
      rw [if_pos (by rw [h2]; simp)]
      have hty : tyKeep e 0 (some e) = some e := by simp [tyKeep]
      rw [hty]
      refine ⟨_, _, rfl, .inr ⟨by omega, by rw [List.length_append, h2, hys, Nat.add_mul], H.n, by simp [Heap.fresh, h_ndel], hN, by simp [Heap.fresh, h_get, h_ndel]⟩, ⟨by simp only [Heap.fresh, h_n, h_ndel]; omega, fun j o hj ho => ?_, fun _ => (hlow.del).push⟩, (hlow.del).push⟩
      have hne : j ≠ k := fun e => ho ⟨_, _, _, by rw [e]⟩
      show (((H.del k).push _).t.get j) = some o
      rw [h_get, h_ndel, if_neg (by have := hlow j o hj; omega), h_gdel, if_neg hne]
      exact hj

/-- .. is told as content -/
theorem Acc.shut {N : Nat} {H : Heap} {e es n d : Nat} {cells : List AV} {v : AV} (h : Acc N H e es n cells v) (hes : es ≠ 0) (hst : Still cells) : ∃ H', shutC (d + 1) v H = some (.L true es cells n, H') ∧ HKeep (blk v) H H' := by
  rcases h with ⟨rfl, rfl, rfl⟩ | ⟨h1, h2, k, rfl, _, h3⟩
  · exact ⟨H, rfl, HKeep.refl⟩
  · refine ⟨H.put k (.row cells es true (some e)), ?_, ⟨Nat.le_refl _, fun j o hj ho => ?_, fun l => l.put (l k _ h3)⟩⟩
    · simp only [shutC, h3, shutRow, List.drop_zero, Cap.es]
      have ht : cells.take (n * es) = cells := by rw [← h2, List.take_length]
      rw [ht, if_pos ⟨h2, .inr hes⟩, hst.map]
      simp only [Option.map_some]
      cases n with
      | zero => exact absurd rfl h1
      | succ n => rfl
    · rw [h_gput, if_neg]
      · exact hj
      · rintro rfl
        exact ho ⟨_, _, _, rfl⟩

theorem Acc.one {N : Nat} {H : Heap} {e es n : Nat} {cells : List AV} {v : AV} (h : Acc N H e es n cells v) : v.one = true := by
  rcases h with ⟨_, _, rfl⟩ | ⟨_, _, k, rfl, _⟩ <;> rfl

theorem Acc.shutV {N : Nat} {H : Heap} {e es n : Nat} {cells : List AV} {v : AV} (h : Acc N H e es n cells v) (hes : es ≠ 0) (hst : Still cells) : ∃ H', Lite.shutV v H = some (.L true es cells n, H') ∧ HKeep (blk v) H H' := by
  rw [shutV_eq h.one]
  exact h.shut hes hst

/-! ### Loops -/

/-- A loop, round by round: 'I i' holds ahead of round i; behind the last round, or out of one, it goes on. -/
theorem loop_rounds {call : CallF} {n : Nat} {c : SCode} {KK : Ex → Fr → Heap → R} {Q : AV → Heap → Prop} (N : Nat) (I : Nat → Fr → Heap → Prop)
    (hbody : ∀ i fr H (K' : Ex → Fr → Heap → R), i < N → I i fr H → (∀ t, K' (.exit t) = KK (.exit t)) → K' .ret = KK .ret → (∀ fr' H', I (i + 1) fr' H' → Gives (K' .normal fr' H') Q) → Gives (c.run call n fr H K') Q)
    (hlast : ∀ fr H (K' : Ex → Fr → Heap → R), I N fr H → (∀ t, K' (.exit t) = KK (.exit t)) → K' .ret = KK .ret → Gives (c.run call n fr H K') Q) :
    ∀ (m i : Nat) (fr : Fr) (H : Heap), i ≤ N → N < m + i → I i fr H → Gives (loopR call n c m fr H KK) Q
  | 0, i, fr, H, hi, hm, _ => by omega
  | m + 1, i, fr, H, hi, hm, h => by
    rw [loop_succ]
    by_cases hlt : i < N
    · refine hbody i fr H _ hlt h (fun t => by funext fr H; exact k_loopE) (by funext fr H; exact k_loopR) fun fr' H' h' => ?_
      rw [k_loopN]
      exact loop_rounds N I hbody hlast m (i + 1) fr' H' (by omega) (by omega) h'
    · obtain rfl : i = N := by omega
      exact hlast fr H _ h (fun t => by funext fr H; exact k_loopE) (by funext fr H; exact k_loopR)

/-- a whole number within bounds -/
theorem wrap64 {x : Int} (h1 : -9223372036854775808 ≤ x) (h2 : x < 9223372036854775808) : IntKind.i64.wrap x = x := by
  have h : IntKind.i64.wrap x = if x % 18446744073709551616 ≥ 9223372036854775808 then x % 18446744073709551616 - 18446744073709551616 else x % 18446744073709551616 := by
    simp [IntKind.wrap, IntKind.bits, IntKind.signed]
  rw [h]
  split <;> omega

theorem wrap_succ {i n : Nat} (h : i < n) (hn : n ≤ 9223372036854775807) : IntKind.i64.wrap ((i : Int) + 1) = ((i + 1 : Nat) : Int) := by
  rw [wrap64 (by omega) (by omega)]; rfl

theorem wrap_nat {i j : Nat} (h : i + j ≤ 4611686018427387904) : IntKind.i64.wrap ((i : Int) + (j : Int)) = ((i + j : Nat) : Int) := by
  rw [wrap64 (by omega) (by omega)]; rfl

end Go.Lite
