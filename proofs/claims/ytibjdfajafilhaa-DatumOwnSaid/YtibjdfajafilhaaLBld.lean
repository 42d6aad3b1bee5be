/-
  strings.Builder's copyCheck and String: Lean functions in their place, and that they may stand there.
-/
import Derived.Test.YtibjdfajafilhaaLRow
import Derived.Test.YtibjdfajafilhaaProg
import Derived.WalkKit
import Derived.WalkSpells
import Derived.WalkLawsBesides
import Derived.Lib.Builder
import Derived.Lib.UnsafeStr
import Derived.Laws.Externs
import Derived.Lib.Walk
namespace Go.Lite
open Go Go.Proofs Go.RowKit
set_option linter.unusedVariables false
set_option linter.unusedSimpArgs false

/-! ### The walks -/

set_option maxHeartbeats 2000000 in
set_option maxRecDepth 100000 in
theorem check_used (b o : Nat) (w : World) (h0 : w.cell? ⟨b, o, none⟩ = some (.pointer (some ⟨b, o, none⟩))) :
    Calls Try.prog 38 #[.pointer (some ⟨b, o, none⟩)] w fun e w' => e = .returned (.tuple #[]) ∧ w' = w := by
  obtain ⟨j, hj, _⟩ := Option.map_eq_some_iff.1 (show (Try.prog.info? 52).map (·.size) = some 2 from by kernel_rfl)
  go_enter Try.func38, Try.ntmps38
  go_wp2
  rw [Lib.run_neq_ptr_same w _ (by kernel_rfl) hj]
  go_wp2
  go_end0
  exact ⟨rfl, rfl⟩

set_option maxHeartbeats 2000000 in
set_option maxRecDepth 100000 in
theorem check_fresh (b o c t : Nat) (w : World) (h0 : w.cell? ⟨b, o, none⟩ = some (.pointer none)) (hsh : w.shape? b = some (t, c)) (ho : o < c) (hl : liesAt Try.prog Try.prog.depth t (c / Try.prog.cellsOf t) o 52 1 = true) (hfz : w.frozen? ⟨b, o, none⟩ = false) :
    Calls Try.prog 38 #[.pointer (some ⟨b, o, none⟩)] w fun e w' => e = .returned (.tuple #[]) ∧ w' = w.setCell ⟨b, o, none⟩ (.pointer (some ⟨b, o, none⟩)) := by
  obtain ⟨j, hj, hjs⟩ := Option.map_eq_some_iff.1 (show (Try.prog.info? 52).map (·.size) = some 2 from by kernel_rfl)
  go_enter Try.func38, Try.ntmps38
  go_wp2
  rw [Lib.run_to_unsafe w ⟨b, o, none⟩ (by kernel_rfl) (by kernel_rfl) hj (by rw [hjs]; decide) hsh ho]
  simp only [Result.andThen]
  rw [Oper.upon_value]
  go_wp2
  rw [run_callFunc_extern Try.func39 (by kernel_rfl) (by kernel_rfl) (by kernel_rfl) (e := Extern.AbiNoEscape.same) (by kernel_rfl)]
  rw [Lib.run_noEscape]
  simp only [Result.andThen]
  rw [Oper.upon_value]
  go_wp2
  rw [Lib.run_from_unsafe w ⟨b, o, none⟩ (by kernel_rfl) (by kernel_rfl) hj hsh hl]
  simp only [Result.andThen]
  rw [Oper.upon_value]
  go_wp2
  go_end0
  exact ⟨rfl, rfl⟩

theorem string_none (W : World) (q : Option Addr) : (Builtin.unsafeString_ #[66, 3] 9 #[.pointer q, .int .i64 0]).run Try.prog W = .ok (.string .empty) W := Lib.run_unsafeString_none W _ _ _ q

set_option maxHeartbeats 2000000 in
set_option maxRecDepth 100000 in
theorem string_nil (b o : Nat) (w : World) (h1 : w.cell? ⟨b, o + 1, none⟩ = some (.slice none 0 0)) :
    Calls Try.prog 32 #[.pointer (some ⟨b, o, none⟩)] w fun e w' => e = .returned (.string ⟨#[]⟩) ∧ w' = w.drew := by
  have hUS := string_none
  have c1 : w.drew.cell? ⟨b, o + 1, none⟩ = some (.slice none 0 0) := h1
  have hSD : (Builtin.unsafeSliceData_ #[50] 66 #[.slice none 0 0]).run Try.prog w.drew = .ok (.pointer none) w.drew := rfl
  go_enter Try.func32, Try.ntmps32
  go_wp2
  go_region
  all_goals (go_wp2; go_ret; exact ⟨rfl, rfl⟩)

set_option maxHeartbeats 2000000 in
set_option maxRecDepth 100000 in
theorem string_row (b o g cap c : Nat) (l : List UInt8) (w : World) (h0 : l ≠ []) (h1 : w.cell? ⟨b, o + 1, none⟩ = some (.slice (some ⟨g, 0, none⟩) l.length cap)) (hcap : cap ≠ 0) (hsh : w.shape? g = some (5, c)) (hc : l.length ≤ c) (h63 : l.length ≤ 9223372036854775807)
    (hcell : ∀ j x, l[j]? = some x → w.cell? ⟨g, j, none⟩ = some (.int .u8 x.toNat)) :
    Calls Try.prog 32 #[.pointer (some ⟨b, o, none⟩)] w fun e w' => e = .returned (.string ⟨l.toArray⟩) ∧ w' = w.drew.freeze ⟨g, 0, none⟩ l.length := by
  have c1 : w.drew.cell? ⟨b, o + 1, none⟩ = some (.slice (some ⟨g, 0, none⟩) l.length cap) := h1
  have hSD : (Builtin.unsafeSliceData_ #[50] 66 #[.slice (some ⟨g, 0, none⟩) l.length cap]).run Try.prog w.drew = .ok (.pointer (some ⟨g, 0, none⟩)) w.drew :=
    Lib.run_unsafeSliceData_row _ _ _ _ _ _ hcap
  have hUS : (Builtin.unsafeString_ #[66, 3] 9 #[.pointer (some ⟨g, 0, none⟩), .int .i64 l.length]).run Try.prog w.drew = .ok (.string ⟨l.toArray⟩) (w.drew.freeze ⟨g, 0, none⟩ l.length) := by
    refine Lib.run_unsafeString_row w.drew 66 3 9 5 (by kernel_rfl) (by kernel_rfl) g c hsh l h0 hc h63 ?_
    intro j x hx
    have := hcell j x hx
    rw [Addr.add_mid]; simpa using this
  clear hcap hcell
  go_enter Try.func32, Try.ntmps32
  go_wp2
  go_region
  all_goals (go_wp2; go_ret; exact ⟨rfl, rfl⟩)

/-! ### The functions -/

def ownCheck (lies : Nat → Nat → Nat → Bool) : List AV → Heap → R
  | [.ptr (.new k) o], H => match H.t.get k with
    | some (.row cs es fz ty) => match cs[o]? with
      | some (.ptr (.new k') o') => bif Nat.beq k k' && Nat.beq o o' then some (.ret (.tuple []), H) else none
      | some .nilp => match es, fz, ty with
        | 0, false, some t => bif lies t cs.length o then some (.ret (.tuple []), H.put k (.row (putAt cs o [.ptr (.new k) o]) 0 false (some t))) else none
        | _, _, _ => none
      | _ => none
    | _ => none
  | _, _ => none

def ownString : List AV → Heap → R
  | [.ptr (.new k) o], H => match H.ld1 (.new k) (o + 1) with
    | some .nils => some (.ret (.str []), H)
    | some (.slice (.new j) 0 (n + 1) _) => match H.t.get j with
      | some (.row cs es fz (some 5)) => if n + 1 ≤ cs.length ∧ n < 1099511627776 then (bytesOf (cs.take (n + 1))).map fun s => (.ret (.str s), H.put j (.row cs es true (some 5))) else none
      | _ => none
    | _ => none
  | _, _ => none

variable {nb : NB} {ι : Emb} {H : Heap} {w : World}

theorem freeze_other (w : World) (p : Addr) (n : Nat) {b : Nat} (hb : b ≠ p.block) : (w.freeze p n).heap[b]? = w.heap[b]? := by
  unfold World.freeze
  split
  · rfl
  · simp only [Array.getElem?_modify]
    rw [if_neg (Ne.symm hb)]

theorem freeze_size (w : World) (p : Addr) (n : Nat) : (w.freeze p n).heap.size = w.heap.size := by
  unfold World.freeze
  split <;> simp

theorem freeze_cell (w : World) (p : Addr) (n : Nat) (a : Addr) : (w.freeze p n).cell? a = w.cell? a := by
  by_cases e : a.block = p.block
  · unfold World.freeze
    split
    · rfl
    · simp only [World.cell?, Array.getElem?_modify, if_pos e.symm]
      cases hh : w.heap[a.block]? with
      | none => simp
      | some ob => cases ob <;> simp
  · simp only [World.cell?, freeze_other w p n e]

theorem freeze_shape (w : World) (p : Addr) (n b : Nat) : (w.freeze p n).shape? b = w.shape? b := by
  by_cases e : b = p.block
  · unfold World.freeze
    split
    · rfl
    · simp only [World.shape?, Array.getElem?_modify, if_pos e.symm]
      cases hh : w.heap[b]? with
      | none => simp
      | some ob => cases ob <;> simp
  · simp only [World.shape?, freeze_other w p n e]

theorem freeze_env (w : World) (p : Addr) (n : Nat) : (w.freeze p n).os = w.os ∧ (w.freeze p n).tape = w.tape ∧ (w.freeze p n).output = w.output := by
  unfold World.freeze
  split <;> exact ⟨rfl, rfl, rfl⟩

/-- bytes are frozen -/
theorem Rel.freeze {k : Nat} {l : Loc} {cs : List AV} {es : Nat} {fz : Bool} {ty : Option Nat} {w' : World} (r : Rel nb ι H w) (hk : ι k = some l) (hget : H.t.get k = some (.row cs es fz ty))
    (hoth : ∀ b, b ≠ l.blk → w'.heap[b]? = w.heap[b]?) (hsz : w'.heap.size = w.heap.size) (hcell : ∀ a, w'.cell? a = w.cell? a) (hshape : ∀ b, w'.shape? b = w.shape? b)
    (henv : w'.os = w.os ∧ w'.tape = w.tape ∧ w'.output = w.output) :
    Rel nb ι (H.put k (.row cs es true ty)) w' ∧ Ext nb ι H w ι (H.put k (.row cs es true ty)) w' := by
  have hd := r.dom k l hk
  constructor
  · refine ⟨by rw [hsz]; exact r.nbw, ?_, ?_, ?_, ?_, ?_, ?_, ?_, nb.keep w _ (fun b hb => hoth b (by have := (r.dom k l hk).1; omega)) r.inv⟩
    · intro b bs hb
      refine ⟨(r.old b bs hb).1, fun i x hx => ?_⟩
      obtain ⟨v, hv, hr⟩ := (r.old b bs hb).2 i x hx
      exact ⟨v, by rw [hcell]; exact hv, hr⟩
    · intro j q ds es' fz' ty' hj hoj
      simp only [Heap.put, T.get_set] at hoj
      by_cases hjk : j = k
      · subst hjk
        rw [if_pos rfl] at hoj
        simp only [Option.some.injEq, Lite.Obj.row.injEq] at hoj
        obtain ⟨rfl, rfl, rfl, rfl⟩ := hoj
        obtain ⟨h1, h2, h3, h4⟩ := r.row j q _ _ _ _ hj hget
        refine ⟨fun i x hx => ?_, fun hf => (by cases hf), fun he i hi => ?_, h4.of_shape (hshape _)⟩
        · obtain ⟨v, hv, hr⟩ := h1 i x hx
          exact ⟨v, by rw [hcell]; exact hv, hr⟩
        · obtain ⟨v, hv⟩ := h3 he i hi
          exact ⟨v, by rw [hcell]; exact hv⟩
      · rw [if_neg hjk] at hoj
        have hne : q.blk ≠ l.blk := fun e => hjk (r.inj j k q l _ _ hj hk hoj hget e)
        obtain ⟨h1, h2, h3, h4⟩ := r.row j q ds es' fz' ty' hj hoj
        refine ⟨fun i x hx => ?_, fun hf i v hv => ?_, fun he i hi => ?_, h4.of_shape (hshape _)⟩
        · obtain ⟨v, hv, hr⟩ := h1 i x hx
          exact ⟨v, by rw [hcell]; exact hv, hr⟩
        · rw [hcell] at hv
          rw [frozen?_of_heap (hoth _ hne)]
          exact h2 hf i v hv
        · obtain ⟨v, hv⟩ := h3 he i hi
          exact ⟨v, by rw [hcell]; exact hv⟩
    · intro j q s pos hj hoj
      simp only [Heap.put, T.get_set] at hoj
      by_cases hjk : j = k
      · rw [if_pos hjk] at hoj; simp at hoj
      · rw [if_neg hjk] at hoj
        have hne : q.blk ≠ l.blk := fun e => hjk (r.inj j k q l _ _ hj hk hoj hget e)
        obtain ⟨h0, b, hb1, hb2⟩ := r.iter j q s pos hj hoj
        exact ⟨h0, b, hb1, by rw [hoth _ hne]; exact hb2⟩
    · intro j q hj
      rw [hsz]
      exact r.dom j q hj
    · intro j j' q q' o1 o2 hj hj' h1 h2 hb
      simp only [Heap.put, T.get_set] at h1 h2
      have f : ∀ (j : Nat) (o1 : Lite.Obj), (if j = k then some (Lite.Obj.row cs es true ty) else H.t.get j) = some o1 → ∃ o2, H.t.get j = some o2 := fun j o1 h => by
        by_cases e : j = k
        · subst e; exact ⟨_, hget⟩
        · rw [if_neg e] at h; exact ⟨_, h⟩
      obtain ⟨p1, e1⟩ := f j o1 h1
      obtain ⟨p2, e2⟩ := f j' o2 h2
      exact r.inj j j' q q' p1 p2 hj hj' e1 e2 hb
    · intro j o1 h1
      simp only [Heap.put, T.get_set] at h1 ⊢
      by_cases e : j = k
      · subst e; exact hd.2.2
      · rw [if_neg e] at h1; exact r.lt j o1 h1
    · intro b c hb
      obtain ⟨g1, g2, g3⟩ := r.fz b c hb
      refine ⟨by rw [hsz]; exact g1, fun i => by rw [hcell]; exact g2 i, fun j q o1 hj hoj hbq => ?_⟩
      simp only [Heap.put, T.get_set] at hoj
      by_cases e : j = k
      · rw [if_pos e] at hoj
        simp only [Option.some.injEq] at hoj
        exact ⟨_, _, _, hoj.symm⟩
      · rw [if_neg e] at hoj
        exact g3 j q o1 hj hoj hbq
  · refine ⟨Emb.le_refl ι, by rw [hsz]; exact Nat.le_refl _, fun b hb hc => ?_, fun j q hj _ => ⟨j, q, hj, rfl⟩, fun _ _ h => .inl h, Nat.le_refl _, fun j _ hj => ?_, rfl, henv, fun _ _ h => .inl h⟩
    · refine hoth b ?_
      rcases hc with hc | hc
      · omega
      · exact fun e => hc k l hk e.symm
    · simp only [Heap.put, T.get_set]
      rw [if_neg]
      rintro rfl
      rw [hk] at hj; cases hj

theorem ownCheck_ok {lies : Nat → Nat → Nat → Bool} (hl : ∀ t c o, lies t c o = true → o < c ∧ liesAt Try.prog Try.prog.depth t (c / Try.prog.cellsOf t) o 52 1 = true) : OwnOk Try.prog nb 38 (ownCheck lies) := by
  intro xs args ι H w out h hxs r
  refine ⟨fun w' => Try.call38 args w', ?_⟩
  unfold ownCheck at h
  split at h
  case h_2 => cases h
  rename_i G k o
  simp only [VRels, VRel, locOf] at hxs
  obtain ⟨y, ys, hargs, ⟨l, hk, rfl⟩, rfl⟩ := hxs
  obtain rfl : args = #[.pointer (some ⟨l.blk, l.off + o, none⟩)] := by
    cases args; simp_all
  split at h
  case h_2 => cases h
  rename_i cs es fz ty hget
  obtain ⟨h1, h2, h3, h4⟩ := r.row k l cs es fz ty hk hget
  split at h
  case h_3 => cases h
  · rename_i k' o' hc
    cases hb : Nat.beq k k' && Nat.beq o o' with
    | false => rw [hb] at h; cases h
    | true =>
      rw [hb] at h
      simp only [cond_true, Option.some.injEq] at h
      subst h
      simp only [Bool.and_eq_true] at hb
      obtain rfl := Nat.eq_of_beq_eq_true hb.1
      obtain rfl := Nat.eq_of_beq_eq_true hb.2
      obtain ⟨v, hv, hr⟩ := h1 o _ hc
      simp only [VRel, locOf] at hr
      obtain ⟨l', hk', rfl⟩ := hr
      obtain rfl : l' = l := by rw [hk] at hk'; simpa using hk'.symm
      refine (check_used l'.blk (l'.off + o) w hv).mono ?_
      rintro e w' ⟨rfl, rfl⟩
      exact ⟨ι, .tuple [], rfl, by simp [VRel, VRels], r, Ext.refl⟩
  · rename_i hc
    split at h
    case h_2 => cases h
    rename_i t
    cases hb : lies t cs.length o with
    | false => rw [hb] at h; cases h
    | true =>
      rw [hb] at h
      simp only [cond_true, Option.some.injEq] at h
      subst h
      obtain ⟨g1, g2⟩ := hl _ _ _ hb
      obtain ⟨q0, c, q1, q2⟩ := h4 t rfl
      obtain rfl := q2 rfl
      obtain ⟨v, hv, hr⟩ := h1 o _ hc
      simp only [VRel] at hr
      subst hr
      have hz : l.off + o = o := by omega
      have hfz := h2 rfl (l.off + o) _ hv
      have hst : H.st (.new k) o [.ptr (.new k) o] = some (H.put k (.row (putAt cs o [.ptr (.new k) o]) 0 false (some t))) := by
        simp only [Heap.st, hget, List.length_singleton]
        rw [if_pos (by omega)]
      obtain ⟨s1, s2, s3⟩ := st_sound (p := .new k) (us := [.pointer (some ⟨l.blk, l.off + o, none⟩)]) r hk (by simp only [VRels, VRel, locOf]; exact ⟨_, [], rfl, ⟨l, hk, rfl⟩, rfl⟩) hst
      refine (check_fresh l.blk (l.off + o) cs.length t w hv q1 (by omega) (by rw [hz]; exact g2) hfz).mono ?_
      rintro e w' ⟨rfl, rfl⟩
      exact ⟨ι, .tuple [], rfl, by simp [VRel, VRels], s2, s3⟩

theorem bytesOf_spec : ∀ {cs : List AV} {s : List Nat}, bytesOf cs = some s → ∃ l : List UInt8, l.map (·.toNat) = s ∧ cs = l.map fun b => AV.int .u8 (b.toNat : Int)
  | [], s, h => by
    simp only [bytesOf, Option.some.injEq] at h
    subst h
    exact ⟨[], rfl, rfl⟩
  | c :: cs, s, h => by
    unfold bytesOf at h
    split at h
    · rename_i h'; cases h'
    · rename_i n vs hcc
      simp only [List.cons.injEq] at hcc
      obtain ⟨rfl, rfl⟩ := hcc
      split at h
      case isFalse => cases h
      rename_i hn
      simp only [Option.map_eq_some_iff] at h
      obtain ⟨s', hs', rfl⟩ := h
      obtain ⟨l, h1, h2⟩ := bytesOf_spec hs'
      have hb : (n.toUInt8).toNat = n := by simp; omega
      refine ⟨n.toUInt8 :: l, by simp only [List.map_cons, h1, hb], ?_⟩
      simp only [List.map_cons, hb, h2]
      rfl
    · cases h

theorem ownString_ok : OwnOk Try.prog nb 32 ownString := by
  intro xs args ι H w out h hxs r
  refine ⟨fun w' => Try.call32 args w', ?_⟩
  unfold ownString at h
  split at h
  case h_2 => cases h
  rename_i G k o
  simp only [VRels, VRel, locOf] at hxs
  obtain ⟨y, ys, hargs, ⟨l, hk, rfl⟩, rfl⟩ := hxs
  obtain rfl : args = #[.pointer (some ⟨l.blk, l.off + o, none⟩)] := by
    cases args; simp_all
  split at h
  case h_3 => cases h
  · rename_i hld
    simp only [Option.some.injEq] at h
    subst h
    obtain ⟨v, hv, hr⟩ := ld1_sound (p := .new k) r hk hld
    simp only [VRel] at hr
    subst hr
    refine (string_nil l.blk (l.off + o) w (by rw [Nat.add_assoc]; exact hv)).mono ?_
    rintro e w' ⟨rfl, rfl⟩
    exact ⟨ι, .str [], rfl, by simp only [VRel]; exact ⟨_, rfl, rfl⟩, Rel.same (w := w) rfl r, Ext.same (w := w) rfl⟩
  · rename_i j n cp hld
    obtain ⟨v, hv, hr⟩ := ld1_sound (p := .new k) r hk hld
    simp only [VRel, locOf] at hr
    obtain ⟨q, cap, hq, rfl, hnc, _⟩ := hr
    split at h
    case h_2 => cases h
    rename_i cs es fz hget
    split at h
    case isFalse => cases h
    rename_i hlen
    simp only [Option.map_eq_some_iff] at h
    obtain ⟨s, hs, rfl⟩ := h
    obtain ⟨bs, hb1, hb2⟩ := bytesOf_spec hs
    obtain ⟨h1, h2, h3, h4⟩ := r.row j q cs es fz _ hq hget
    obtain ⟨q0, c, q1, q2⟩ := h4 _ rfl
    have hbl : bs.length = n + 1 := by
      have := congrArg List.length hb2
      rw [List.length_take, List.length_map] at this
      omega
    have hcell : ∀ i x, bs[i]? = some x → w.cell? ⟨q.blk, i, none⟩ = some (.int .u8 x.toNat) := fun i x hx => by
      have hi := (List.getElem?_eq_some_iff.1 hx).1
      have hci : cs[i]? = some (.int .u8 (x.toNat : Int)) := by
        have h5 : (cs.take (n + 1))[i]? = some (.int .u8 (x.toNat : Int)) := by
          rw [hb2, List.getElem?_map, hx]; rfl
        rw [List.getElem?_take_of_lt (by omega)] at h5
        exact h5
      obtain ⟨u, hu, hr⟩ := h1 i _ hci
      simp only [VRel] at hr
      subst hr
      rw [q0, Nat.zero_add] at hu
      exact hu
    have hcl : bs.length ≤ c := by
      obtain ⟨x, hx⟩ : ∃ x, bs[n]? = some x := ⟨bs[n]'(by omega), List.getElem?_eq_getElem _⟩
      have := hcell n x hx
      unfold World.cell? at this
      unfold World.shape? at q1
      split at this
      · rename_i hh
        rw [hh] at q1
        simp only [Option.some.injEq, Prod.mk.injEq] at q1
        have h6 := this
        simp at h6
        obtain ⟨h7, _⟩ := Array.getElem?_eq_some_iff.1 h6
        omega
      · cases this
    have hne : bs ≠ [] := fun e => by rw [e] at hbl; simp at hbl
    have hv' : w.cell? ⟨l.blk, l.off + o + 1, none⟩ = some (.slice (some ⟨q.blk, 0, none⟩) bs.length cap) := by
      rw [Nat.add_assoc, hv, hbl, q0]
    refine (string_row l.blk (l.off + o) q.blk cap c bs w hne hv' (by omega) q1 hcl (by omega) hcell).mono ?_
    rintro e w' ⟨rfl, rfl⟩
    have hfr := Rel.freeze (w' := w.drew.freeze ⟨q.blk, 0, none⟩ bs.length) r hq hget ?_ ?_ ?_ ?_ ?_
    · exact ⟨ι, .str s, rfl, by simp only [VRel]; exact ⟨_, rfl, by unfold bytesRel; simpa using hb1⟩, hfr.1, hfr.2⟩
    · intro b hb
      exact freeze_other _ _ _ hb
    · exact freeze_size _ _ _
    · intro a
      exact freeze_cell w.drew _ _ a
    · intro b
      exact freeze_shape w.drew _ _ b
    · exact freeze_env w.drew _ _

end Go.Lite
