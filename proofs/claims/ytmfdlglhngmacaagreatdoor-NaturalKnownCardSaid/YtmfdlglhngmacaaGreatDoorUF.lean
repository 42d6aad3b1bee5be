/-
  Several texts in one: LBld, Shelf, TBPure, TBPureB, TBPureC, TBPureD, TBOwn.
-/
import Derived.Test.YtmfdlglhngmacaaGreatDoorUC
import Derived.Test.YtmfdlglhngmacaaGreatDoorProg
import Derived.WalkKit
import Derived.WalkSpells
import Derived.WalkLawsBesides
import Derived.Lib.Builder
import Derived.Lib.UnsafeStr
import Derived.Laws.Externs
import Derived.Lib.Walk
import Derived.Shelf.LaysM
import Derived.Shelf.Strconv.Itoa3
import Derived.Shelf.Strings.Repeat
import Derived.Ground.Names2Prog
import Derived.Ground.SlgnProg
import Derived.Test.YtmfdlglhngmacaaGreatDoorUE
import Derived.Lib.LaidTab
import Derived.Below

set_option linter.unusedSimpArgs false
set_option linter.unusedVariables false
set_option linter.defProp false
set_option maxRecDepth 100000

/-
  strings.Builder's copyCheck and String: Lean functions in their place, and that they may stand there.
-/
namespace Go.Lite
open Go Go.Proofs Go.RowKit
/-! ### The walks -/
set_option maxHeartbeats 2000000 in
set_option maxRecDepth 100000 in
theorem check_used (b o : Nat) (w : World) (h0 : w.cell? ⟨b, o, none⟩ = some (.pointer (some ⟨b, o, none⟩))) :
    Calls Tryz.prog 95 #[.pointer (some ⟨b, o, none⟩)] w fun e w' => e = .returned (.tuple #[]) ∧ w' = w := by
  obtain ⟨j, hj, _⟩ := Option.map_eq_some_iff.1 (show (Tryz.prog.info? 67).map (·.size) = some 2 from by kernel_rfl)
  go_enter Tryz.func95, Tryz.ntmps95
  go_wp2
  rw [Lib.run_neq_ptr_same w _ (by kernel_rfl) hj]
  go_wp2
  go_end0
  exact ⟨rfl, rfl⟩
set_option maxHeartbeats 2000000 in
set_option maxRecDepth 100000 in
theorem check_fresh (b o c t : Nat) (w : World) (h0 : w.cell? ⟨b, o, none⟩ = some (.pointer none)) (hsh : w.shape? b = some (t, c)) (ho : o < c) (hl : liesAt Tryz.prog Tryz.prog.depth t (c / Tryz.prog.cellsOf t) o 67 1 = true) (hfz : w.frozen? ⟨b, o, none⟩ = false) :
    Calls Tryz.prog 95 #[.pointer (some ⟨b, o, none⟩)] w fun e w' => e = .returned (.tuple #[]) ∧ w' = w.setCell ⟨b, o, none⟩ (.pointer (some ⟨b, o, none⟩)) := by
  obtain ⟨j, hj, hjs⟩ := Option.map_eq_some_iff.1 (show (Tryz.prog.info? 67).map (·.size) = some 2 from by kernel_rfl)
  go_enter Tryz.func95, Tryz.ntmps95
  go_wp2
  rw [Lib.run_to_unsafe w ⟨b, o, none⟩ (by kernel_rfl) (by kernel_rfl) hj (by rw [hjs]; decide) hsh ho]
  simp only [Result.andThen]
  rw [Oper.upon_value]
  go_wp2
  rw [run_callFunc_extern Tryz.func118 (by kernel_rfl) (by kernel_rfl) (by kernel_rfl) (e := Extern.AbiNoEscape.same) (by kernel_rfl)]
  rw [Lib.run_noEscape]
  simp only [Result.andThen]
  rw [Oper.upon_value]
  go_wp2
  rw [Lib.run_from_unsafe w ⟨b, o, none⟩ (by kernel_rfl) (by kernel_rfl) hj hsh hl]
  simp only [Result.andThen]
  rw [Oper.upon_value]
  go_wp2
  go_end0
  exact ⟨rfl, rfl⟩
theorem string_none (W : World) (q : Option Addr) : (Builtin.unsafeString_ #[118, 3] 9 #[.pointer q, .int .i64 0]).run Tryz.prog W = .ok (.string .empty) W := Lib.run_unsafeString_none W _ _ _ q
set_option maxHeartbeats 2000000 in
set_option maxRecDepth 100000 in
theorem string_nil (b o : Nat) (w : World) (h1 : w.cell? ⟨b, o + 1, none⟩ = some (.slice none 0 0)) :
    Calls Tryz.prog 28 #[.pointer (some ⟨b, o, none⟩)] w fun e w' => e = .returned (.string ⟨#[]⟩) ∧ w' = w.drew := by
  have hUS := string_none
  have c1 : w.drew.cell? ⟨b, o + 1, none⟩ = some (.slice none 0 0) := h1
  have hSD : (Builtin.unsafeSliceData_ #[47] 118 #[.slice none 0 0]).run Tryz.prog w.drew = .ok (.pointer none) w.drew := rfl
  go_enter Tryz.func28, Tryz.ntmps28
  go_wp2
  go_region
  all_goals (go_wp2; go_ret; exact ⟨rfl, rfl⟩)
set_option maxHeartbeats 2000000 in
set_option maxRecDepth 100000 in
theorem string_row (b o g cap c : Nat) (l : List UInt8) (w : World) (h0 : l ≠ []) (h1 : w.cell? ⟨b, o + 1, none⟩ = some (.slice (some ⟨g, 0, none⟩) l.length cap)) (hcap : cap ≠ 0) (hsh : w.shape? g = some (5, c)) (hc : l.length ≤ c) (h63 : l.length ≤ 9223372036854775807)
    (hcell : ∀ j x, l[j]? = some x → w.cell? ⟨g, j, none⟩ = some (.int .u8 x.toNat)) :
    Calls Tryz.prog 28 #[.pointer (some ⟨b, o, none⟩)] w fun e w' => e = .returned (.string ⟨l.toArray⟩) ∧ w' = w.drew.freeze ⟨g, 0, none⟩ l.length := by
  have c1 : w.drew.cell? ⟨b, o + 1, none⟩ = some (.slice (some ⟨g, 0, none⟩) l.length cap) := h1
  have hSD : (Builtin.unsafeSliceData_ #[47] 118 #[.slice (some ⟨g, 0, none⟩) l.length cap]).run Tryz.prog w.drew = .ok (.pointer (some ⟨g, 0, none⟩)) w.drew :=
    Lib.run_unsafeSliceData_row _ _ _ _ _ _ hcap
  have hUS : (Builtin.unsafeString_ #[118, 3] 9 #[.pointer (some ⟨g, 0, none⟩), .int .i64 l.length]).run Tryz.prog w.drew = .ok (.string ⟨l.toArray⟩) (w.drew.freeze ⟨g, 0, none⟩ l.length) := by
    refine Lib.run_unsafeString_row w.drew 118 3 9 5 (by kernel_rfl) (by kernel_rfl) g c hsh l h0 hc h63 ?_
    intro j x hx
    have := hcell j x hx
    rw [Addr.add_mid]; simpa using this
  clear hcap hcell
  go_enter Tryz.func28, Tryz.ntmps28
  go_wp2
  go_region
  all_goals (go_wp2; go_ret; exact ⟨rfl, rfl⟩)
/-! ### The functions -/
def ownCheck (lies : Nat → Nat → Nat → Bool) : List AV → Heap → R
  | [.ptr (.new k) o], H => match H.t.get k with
    | some (.row cs es fz ty) => match cs[o]? with
      | some (.ptr (.new k') o') => bif Nat.beq k k' && Nat.beq o o' then some (.ret (.tuple []), H) else none
      | some .nilp => match es, fz, ty with
        | 0, false, some t => bif lies t cs.length o then some (.ret (.tuple []), H.put k (.row (putAt cs o [.ptr (.new k) o]) 0 false (some t))) else none
        | _, _, _ => none
      | _ => none
    | _ => none
  | _, _ => none
def ownString : List AV → Heap → R
  | [.ptr (.new k) o], H => match H.ld1 (.new k) (o + 1) with
    | some .nils => some (.ret (.str []), H)
    | some (.slice (.new j) 0 (n + 1) _) => match H.t.get j with
      | some (.row cs es fz (some 5)) => if n + 1 ≤ cs.length ∧ n < 1099511627776 then (bytesOf (cs.take (n + 1))).map fun s => (.ret (.str s), H.put j (.row cs es true (some 5))) else none
      | _ => none
    | _ => none
  | _, _ => none
variable {nb : NB} {ι : Emb} {H : Heap} {w : World}
theorem freeze_other (w : World) (p : Addr) (n : Nat) {b : Nat} (hb : b ≠ p.block) : (w.freeze p n).heap[b]? = w.heap[b]? := by
  unfold World.freeze
  split
  · rfl
  · simp only [Array.getElem?_modify]
    rw [if_neg (Ne.symm hb)]
theorem freeze_size (w : World) (p : Addr) (n : Nat) : (w.freeze p n).heap.size = w.heap.size := by
  unfold World.freeze
  split <;> simp
theorem freeze_cell (w : World) (p : Addr) (n : Nat) (a : Addr) : (w.freeze p n).cell? a = w.cell? a := by
  by_cases e : a.block = p.block
  · unfold World.freeze
    split
    · rfl
    · simp only [World.cell?, Array.getElem?_modify, if_pos e.symm]
      cases hh : w.heap[a.block]? with
      | none => simp
      | some ob => cases ob <;> simp
  · simp only [World.cell?, freeze_other w p n e]
theorem freeze_shape (w : World) (p : Addr) (n b : Nat) : (w.freeze p n).shape? b = w.shape? b := by
  by_cases e : b = p.block
  · unfold World.freeze
    split
    · rfl
    · simp only [World.shape?, Array.getElem?_modify, if_pos e.symm]
      cases hh : w.heap[b]? with
      | none => simp
      | some ob => cases ob <;> simp
  · simp only [World.shape?, freeze_other w p n e]
theorem freeze_env (w : World) (p : Addr) (n : Nat) : (w.freeze p n).os = w.os ∧ (w.freeze p n).tape = w.tape ∧ (w.freeze p n).output = w.output := by
  unfold World.freeze
  split <;> exact ⟨rfl, rfl, rfl⟩
theorem Rel.freeze {k : Nat} {l : Loc} {cs : List AV} {es : Nat} {fz : Bool} {ty : Option Nat} {w' : World} (r : Rel nb ι H w) (hk : ι k = some l) (hget : H.t.get k = some (.row cs es fz ty))
    (hoth : ∀ b, b ≠ l.blk → w'.heap[b]? = w.heap[b]?) (hsz : w'.heap.size = w.heap.size) (hcell : ∀ a, w'.cell? a = w.cell? a) (hshape : ∀ b, w'.shape? b = w.shape? b)
    (henv : w'.os = w.os ∧ w'.tape = w.tape ∧ w'.output = w.output) :
    Rel nb ι (H.put k (.row cs es true ty)) w' ∧ Ext nb ι H w ι (H.put k (.row cs es true ty)) w' := by
  have hd := r.dom k l hk
  constructor
  · refine ⟨by rw [hsz]; exact r.nbw, ?_, ?_, ?_, ?_, ?_, ?_, ?_, nb.keep w _ (fun b hb => hoth b (by have := (r.dom k l hk).1; omega)) r.inv⟩
    · intro b bs hb
      refine ⟨(r.old b bs hb).1, fun i x hx => ?_⟩
      obtain ⟨v, hv, hr⟩ := (r.old b bs hb).2 i x hx
      exact ⟨v, by rw [hcell]; exact hv, hr⟩
    · intro j q ds es' fz' ty' hj hoj
      simp only [Heap.put, T.get_set] at hoj
      by_cases hjk : j = k
      · subst hjk
        rw [if_pos rfl] at hoj
        simp only [Option.some.injEq, Lite.Obj.row.injEq] at hoj
        obtain ⟨rfl, rfl, rfl, rfl⟩ := hoj
        obtain ⟨h1, h2, h3, h4⟩ := r.row j q _ _ _ _ hj hget
        refine ⟨fun i x hx => ?_, fun hf => (by cases hf), fun he i hi => ?_, h4.of_shape (hshape _)⟩
        · obtain ⟨v, hv, hr⟩ := h1 i x hx
          exact ⟨v, by rw [hcell]; exact hv, hr⟩
        · obtain ⟨v, hv⟩ := h3 he i hi
          exact ⟨v, by rw [hcell]; exact hv⟩
      · rw [if_neg hjk] at hoj
        have hne : q.blk ≠ l.blk := fun e => hjk (r.inj j k q l _ _ hj hk hoj hget e)
        obtain ⟨h1, h2, h3, h4⟩ := r.row j q ds es' fz' ty' hj hoj
        refine ⟨fun i x hx => ?_, fun hf i v hv => ?_, fun he i hi => ?_, h4.of_shape (hshape _)⟩
        · obtain ⟨v, hv, hr⟩ := h1 i x hx
          exact ⟨v, by rw [hcell]; exact hv, hr⟩
        · rw [hcell] at hv
          rw [frozen?_of_heap (hoth _ hne)]
          exact h2 hf i v hv
        · obtain ⟨v, hv⟩ := h3 he i hi
          exact ⟨v, by rw [hcell]; exact hv⟩
    · intro j q s pos hj hoj
      simp only [Heap.put, T.get_set] at hoj
      by_cases hjk : j = k
      · rw [if_pos hjk] at hoj; simp at hoj
      · rw [if_neg hjk] at hoj
        have hne : q.blk ≠ l.blk := fun e => hjk (r.inj j k q l _ _ hj hk hoj hget e)
        obtain ⟨h0, b, hb1, hb2⟩ := r.iter j q s pos hj hoj
        exact ⟨h0, b, hb1, by rw [hoth _ hne]; exact hb2⟩
    · intro j q hj
      rw [hsz]
      exact r.dom j q hj
    · intro j j' q q' o1 o2 hj hj' h1 h2 hb
      simp only [Heap.put, T.get_set] at h1 h2
      have f : ∀ (j : Nat) (o1 : Lite.Obj), (if j = k then some (Lite.Obj.row cs es true ty) else H.t.get j) = some o1 → ∃ o2, H.t.get j = some o2 := fun j o1 h => by
        by_cases e : j = k
        · subst e; exact ⟨_, hget⟩
        · rw [if_neg e] at h; exact ⟨_, h⟩
      obtain ⟨p1, e1⟩ := f j o1 h1
      obtain ⟨p2, e2⟩ := f j' o2 h2
      exact r.inj j j' q q' p1 p2 hj hj' e1 e2 hb
    · intro j o1 h1
      simp only [Heap.put, T.get_set] at h1 ⊢
      by_cases e : j = k
      · subst e; exact hd.2.2
      · rw [if_neg e] at h1; exact r.lt j o1 h1
    · intro b c hb
      obtain ⟨g1, g2, g3⟩ := r.fz b c hb
      refine ⟨by rw [hsz]; exact g1, fun i => by rw [hcell]; exact g2 i, fun j q o1 hj hoj hbq => ?_⟩
      simp only [Heap.put, T.get_set] at hoj
      by_cases e : j = k
      · rw [if_pos e] at hoj
        simp only [Option.some.injEq] at hoj
        exact ⟨_, _, _, hoj.symm⟩
      · rw [if_neg e] at hoj
        exact g3 j q o1 hj hoj hbq
  · refine ⟨Emb.le_refl ι, by rw [hsz]; exact Nat.le_refl _, fun b hb hc => ?_, fun j q hj _ => ⟨j, q, hj, rfl⟩, fun _ _ h => .inl h, Nat.le_refl _, fun j _ hj => ?_, rfl, henv, fun _ _ h => .inl h⟩
    · refine hoth b ?_
      rcases hc with hc | hc
      · omega
      · exact fun e => hc k l hk e.symm
    · simp only [Heap.put, T.get_set]
      rw [if_neg]
      rintro rfl
      rw [hk] at hj; cases hj
theorem ownCheck_ok {lies : Nat → Nat → Nat → Bool} (hl : ∀ t c o, lies t c o = true → o < c ∧ liesAt Tryz.prog Tryz.prog.depth t (c / Tryz.prog.cellsOf t) o 67 1 = true) : OwnOk Tryz.prog nb 95 (ownCheck lies) := by
  intro xs args ι H w out h hxs r
  refine ⟨fun w' => Tryz.call95 args w', ?_⟩
  unfold ownCheck at h
  split at h
  case h_2 => cases h
  rename_i G k o
  simp only [VRels, VRel, locOf] at hxs
  obtain ⟨y, ys, hargs, ⟨l, hk, rfl⟩, rfl⟩ := hxs
  obtain rfl : args = #[.pointer (some ⟨l.blk, l.off + o, none⟩)] := by
    cases args; simp_all
  split at h
  case h_2 => cases h
  rename_i cs es fz ty hget
  obtain ⟨h1, h2, h3, h4⟩ := r.row k l cs es fz ty hk hget
  split at h
  case h_3 => cases h
  · rename_i k' o' hc
    cases hb : Nat.beq k k' && Nat.beq o o' with
    | false => rw [hb] at h; cases h
    | true =>
      rw [hb] at h
      simp only [cond_true, Option.some.injEq] at h
      subst h
      simp only [Bool.and_eq_true] at hb
      obtain rfl := Nat.eq_of_beq_eq_true hb.1
      obtain rfl := Nat.eq_of_beq_eq_true hb.2
      obtain ⟨v, hv, hr⟩ := h1 o _ hc
      simp only [VRel, locOf] at hr
      obtain ⟨l', hk', rfl⟩ := hr
      obtain rfl : l' = l := by rw [hk] at hk'; simpa using hk'.symm
      refine (check_used l'.blk (l'.off + o) w hv).mono ?_
      rintro e w' ⟨rfl, rfl⟩
      exact ⟨ι, .tuple [], rfl, by simp [VRel, VRels], r, Ext.refl⟩
  · rename_i hc
    split at h
    case h_2 => cases h
    rename_i t
    cases hb : lies t cs.length o with
    | false => rw [hb] at h; cases h
    | true =>
      rw [hb] at h
      simp only [cond_true, Option.some.injEq] at h
      subst h
      obtain ⟨g1, g2⟩ := hl _ _ _ hb
      obtain ⟨q0, c, q1, q2⟩ := h4 t rfl
      obtain rfl := q2 rfl
      obtain ⟨v, hv, hr⟩ := h1 o _ hc
      simp only [VRel] at hr
      subst hr
      have hz : l.off + o = o := by omega
      have hfz := h2 rfl (l.off + o) _ hv
      have hst : H.st (.new k) o [.ptr (.new k) o] = some (H.put k (.row (putAt cs o [.ptr (.new k) o]) 0 false (some t))) := by
        simp only [Heap.st, hget, List.length_singleton]
        rw [if_pos (by omega)]
      obtain ⟨s1, s2, s3⟩ := st_sound (p := .new k) (us := [.pointer (some ⟨l.blk, l.off + o, none⟩)]) r hk (by simp only [VRels, VRel, locOf]; exact ⟨_, [], rfl, ⟨l, hk, rfl⟩, rfl⟩) hst
      refine (check_fresh l.blk (l.off + o) cs.length t w hv q1 (by omega) (by rw [hz]; exact g2) hfz).mono ?_
      rintro e w' ⟨rfl, rfl⟩
      exact ⟨ι, .tuple [], rfl, by simp [VRel, VRels], s2, s3⟩
theorem bytesOf_spec : ∀ {cs : List AV} {s : List Nat}, bytesOf cs = some s → ∃ l : List UInt8, l.map (·.toNat) = s ∧ cs = l.map fun b => AV.int .u8 (b.toNat : Int)
  | [], s, h => by
    simp only [bytesOf, Option.some.injEq] at h
    subst h
    exact ⟨[], rfl, rfl⟩
  | c :: cs, s, h => by
    unfold bytesOf at h
    split at h
    · rename_i h'; cases h'
    · rename_i n vs hcc
      simp only [List.cons.injEq] at hcc
      obtain ⟨rfl, rfl⟩ := hcc
      split at h
      case isFalse => cases h
      rename_i hn
      simp only [Option.map_eq_some_iff] at h
      obtain ⟨s', hs', rfl⟩ := h
      obtain ⟨l, h1, h2⟩ := bytesOf_spec hs'
      have hb : (n.toUInt8).toNat = n := by simp; omega
      refine ⟨n.toUInt8 :: l, by simp only [List.map_cons, h1, hb], ?_⟩
      simp only [List.map_cons, hb, h2]
      rfl
    · cases h
theorem ownString_ok : OwnOk Tryz.prog nb 28 ownString := by
  intro xs args ι H w out h hxs r
  refine ⟨fun w' => Tryz.call28 args w', ?_⟩
  unfold ownString at h
  split at h
  case h_2 => cases h
  rename_i G k o
  simp only [VRels, VRel, locOf] at hxs
  obtain ⟨y, ys, hargs, ⟨l, hk, rfl⟩, rfl⟩ := hxs
  obtain rfl : args = #[.pointer (some ⟨l.blk, l.off + o, none⟩)] := by
    cases args; simp_all
  split at h
  case h_3 => cases h
  · rename_i hld
    simp only [Option.some.injEq] at h
    subst h
    obtain ⟨v, hv, hr⟩ := ld1_sound (p := .new k) r hk hld
    simp only [VRel] at hr
    subst hr
    refine (string_nil l.blk (l.off + o) w (by rw [Nat.add_assoc]; exact hv)).mono ?_
    rintro e w' ⟨rfl, rfl⟩
    exact ⟨ι, .str [], rfl, by simp only [VRel]; exact ⟨_, rfl, rfl⟩, Rel.same (w := w) rfl r, Ext.same (w := w) rfl⟩
  · rename_i j n cp hld
    obtain ⟨v, hv, hr⟩ := ld1_sound (p := .new k) r hk hld
    simp only [VRel, locOf] at hr
    obtain ⟨q, cap, hq, rfl, hnc, _⟩ := hr
    split at h
    case h_2 => cases h
    rename_i cs es fz hget
    split at h
    case isFalse => cases h
    rename_i hlen
    simp only [Option.map_eq_some_iff] at h
    obtain ⟨s, hs, rfl⟩ := h
    obtain ⟨bs, hb1, hb2⟩ := bytesOf_spec hs
    obtain ⟨h1, h2, h3, h4⟩ := r.row j q cs es fz _ hq hget
    obtain ⟨q0, c, q1, q2⟩ := h4 _ rfl
    have hbl : bs.length = n + 1 := by
      have := congrArg List.length hb2
      rw [List.length_take, List.length_map] at this
      omega
    have hcell : ∀ i x, bs[i]? = some x → w.cell? ⟨q.blk, i, none⟩ = some (.int .u8 x.toNat) := fun i x hx => by
      have hi := (List.getElem?_eq_some_iff.1 hx).1
      have hci : cs[i]? = some (.int .u8 (x.toNat : Int)) := by
        have h5 : (cs.take (n + 1))[i]? = some (.int .u8 (x.toNat : Int)) := by
          rw [hb2, List.getElem?_map, hx]; rfl
        rw [List.getElem?_take_of_lt (by omega)] at h5
        exact h5
      obtain ⟨u, hu, hr⟩ := h1 i _ hci
      simp only [VRel] at hr
      subst hr
      rw [q0, Nat.zero_add] at hu
      exact hu
    have hcl : bs.length ≤ c := by
      obtain ⟨x, hx⟩ : ∃ x, bs[n]? = some x := ⟨bs[n]'(by omega), List.getElem?_eq_getElem _⟩
      have := hcell n x hx
      unfold World.cell? at this
      unfold World.shape? at q1
      split at this
      · rename_i hh
        rw [hh] at q1
        simp only [Option.some.injEq, Prod.mk.injEq] at q1
        have h6 := this
        simp at h6
        obtain ⟨h7, _⟩ := Array.getElem?_eq_some_iff.1 h6
        omega
      · cases this
    have hne : bs ≠ [] := fun e => by rw [e] at hbl; simp at hbl
    have hv' : w.cell? ⟨l.blk, l.off + o + 1, none⟩ = some (.slice (some ⟨q.blk, 0, none⟩) bs.length cap) := by
      rw [Nat.add_assoc, hv, hbl, q0]
    refine (string_row l.blk (l.off + o) q.blk cap c bs w hne hv' (by omega) q1 hcl (by omega) hcell).mono ?_
    rintro e w' ⟨rfl, rfl⟩
    have hfr := Rel.freeze (w' := w.drew.freeze ⟨q.blk, 0, none⟩ bs.length) r hq hget ?_ ?_ ?_ ?_ ?_
    · exact ⟨ι, .str s, rfl, by simp only [VRel]; exact ⟨_, rfl, by unfold bytesRel; simpa using hb1⟩, hfr.1, hfr.2⟩
    · intro b hb
      exact freeze_other _ _ _ hb
    · exact freeze_size _ _ _
    · intro a
      exact freeze_cell w.drew _ _ a
    · intro b
      exact freeze_shape w.drew _ _ b
    · exact freeze_env w.drew _ _
end Go.Lite

/-
  DERIVED: THE SHELF's CONTRACTS AT THIS DUMP, IN PLAIN WORDS (tools/lay-plain.mjs out of 'TryzShelf.lean', which tools/lay-shelf.mjs wrote): THE SAME DECLARATIONS UNDER THE SAME NAMES: 'import', 'namespace', 'open', 'def', 'theorem' AND NOTHING ELSE: no command of the shelf's: FOR A HAND-IN. Each laying: the table of numbers ('.._ren') and one theorem, a field a fact of the dump's own or the kernel's comparison; each contract: ONE APPLICATION.
-/
namespace Go.Proofs
open Go.Shelf
def Tryz.laysM171_ren : Go.Shelf.Ren := ⟨fun | 171 => 147 | 243 => 162 | 246 => 169 | 283 => 173 | 284 => 174 | 285 => 175 | 286 => 176 | 129 => 179 | 317 => 178 | 318 => 180 | 319 => 181 | 320 => 182 | 337 => 183 | 338 => 184 | n => n, fun | 3 => 3 | 9 => 9 | 2 => 2 | 4 => 4 | 171 => 254 | 0 => 0 | 53 => 251 | 37 => 47 | 5 => 5 | 173 => 257 | 212 => 261 | 51 => 248 | 20 => 20 | 213 => 262 | 46 => 239 | 232 => 265 | 233 => 266 | n => n, fun | 17 => 0 | 18 => 2 | 19 => 3 | n => n⟩
theorem Tryz.laysM171 : Go.Proofs.LaysM.n171 Tryz.prog Tryz.laysM171_ren := {
  mixed := by kernel_rfl
  f129 := Tryz.func179.trans (congrArg some (by kernel_rfl))
  f171 := Tryz.func147.trans (congrArg some (by kernel_rfl))
  f243 := Tryz.func162.trans (congrArg some (by kernel_rfl))
  f246 := Tryz.func169.trans (congrArg some (by kernel_rfl))
  f283 := Tryz.func173.trans (congrArg some (by kernel_rfl))
  f284 := Tryz.func174.trans (congrArg some (by kernel_rfl))
  f285 := Tryz.func175.trans (congrArg some (by kernel_rfl))
  f286 := Tryz.func176.trans (congrArg some (by kernel_rfl))
  f317 := Tryz.func178.trans (congrArg some (by kernel_rfl))
  f318 := Tryz.func180.trans (congrArg some (by kernel_rfl))
  f319 := Tryz.func181.trans (congrArg some (by kernel_rfl))
  f320 := Tryz.func182.trans (congrArg some (by kernel_rfl))
  f337 := Tryz.func183.trans (congrArg some (by kernel_rfl))
  f338 := Tryz.func184.trans (congrArg some (by kernel_rfl))
  t0 := Tryz.underlying0
  a0 := Tryz.isAgg0
  z0 := Tryz.sizeOf0
  v0 := Tryz.zeroValue0
  t2 := Tryz.underlying2
  a2 := Tryz.isAgg2
  z2 := Tryz.sizeOf2
  v2 := Tryz.zeroValue2
  t3 := Tryz.underlying3
  a3 := Tryz.isAgg3
  z3 := Tryz.sizeOf3
  v3 := Tryz.zeroValue3
  t4 := Tryz.underlying4
  a4 := Tryz.isAgg4
  z4 := Tryz.sizeOf4
  v4 := Tryz.zeroValue4
  t5 := Tryz.underlying5
  a5 := Tryz.isAgg5
  z5 := Tryz.sizeOf5
  v5 := Tryz.zeroValue5
  t9 := Tryz.underlying9
  a9 := Tryz.isAgg9
  z9 := Tryz.sizeOf9
  v9 := Tryz.zeroValue9
  t20 := Tryz.underlying20
  a20 := Tryz.isAgg20
  z20 := Tryz.sizeOf20
  v20 := Tryz.zeroValue20
  t37 := Tryz.underlying47
  a37 := Tryz.isAgg47
  z37 := Tryz.sizeOf47
  v37 := Tryz.zeroValue47
  t46 := Tryz.underlying239
  a46 := Tryz.isAgg239
  z46 := Tryz.sizeOf239
  v46 := Tryz.zeroValue239
  t51 := Tryz.underlying248
  a51 := Tryz.isAgg248
  z51 := Tryz.sizeOf248
  v51 := Tryz.zeroValue248
  t53 := Tryz.underlying251
  a53 := Tryz.isAgg251
  z53 := Tryz.sizeOf251
  v53 := Tryz.zeroValue251
  t171 := Tryz.underlying254
  a171 := Tryz.isAgg254
  z171 := Tryz.sizeOf254
  v171 := Tryz.zeroValue254
  t173 := Tryz.underlying257
  a173 := Tryz.isAgg257
  z173 := Tryz.sizeOf257
  v173 := Tryz.zeroValue257
  t212 := Tryz.underlying261
  a212 := Tryz.isAgg261
  z212 := Tryz.sizeOf261
  v212 := Tryz.zeroValue261
  t213 := Tryz.underlying262
  a213 := Tryz.isAgg262
  z213 := Tryz.sizeOf262
  t232 := Tryz.underlying265
  a232 := Tryz.isAgg265
  z232 := Tryz.sizeOf265
  v232 := Tryz.zeroValue265
  t233 := Tryz.underlying266
  a233 := Tryz.isAgg266
  z233 := Tryz.sizeOf266
  v233 := Tryz.zeroValue266
  g17 := by kernel_rfl
  g18 := by kernel_rfl
  g19 := by kernel_rfl
  i0 := by kernel_rfl
  i2 := by kernel_rfl
  i3 := by kernel_rfl
  i4 := by kernel_rfl
  i5 := by kernel_rfl
  i9 := by kernel_rfl
  i20 := by kernel_rfl
  i37 := by kernel_rfl
  i46 := by kernel_rfl
  i51 := by kernel_rfl
  i53 := by kernel_rfl
  i171 := by kernel_rfl
  i173 := by kernel_rfl
  i212 := by kernel_rfl
  i232 := by kernel_rfl
  i233 := by kernel_rfl
  m17 := by kernel_rfl
  m18 := by kernel_rfl
  m19 := by kernel_rfl }
open Go.RowKit Go.Sort Go.Lib in
theorem Tryz.strconv_Itoa (n : Int) (h0 : -9223372036854775808 ≤ n) (h1 : n ≤ 9223372036854775807) (w : World) (htab : Lib.TabIs Tryz.prog w "internal/strconv.uint64pow10" .u64 Lib.pow10Tab) :
    Calls Tryz.prog 147 #[.int .i64 n] w fun e w' => e = .returned (.string ⟨(Lib.itoa n).toArray⟩) ∧ ∃ k os, w' = grow (w.drewN k) os := Any.strconv_Itoa Tryz.laysM171 n h0 h1 w htab
def Tryz.lays105_ren : Go.Shelf.Ren := ⟨fun | 105 => 148 | 212 => 163 | 99 => 164 | 165 => 165 | 166 => 78 | 170 => 76 | 169 => 28 | 263 => 170 | 264 => 171 | 206 => 166 | 240 => 95 | 241 => 172 | 276 => 118 | 277 => 177 | n => n, fun | 9 => 9 | 3 => 3 | 4 => 4 | 20 => 20 | 0 => 0 | 46 => 239 | 109 => 240 | 5 => 5 | 72 => 67 | 76 => 159 | 51 => 248 | 146 => 249 | 53 => 251 | 148 => 252 | 70 => 65 | 37 => 47 | 75 => 158 | 127 => 118 | 164 => 201 | 80 => 57 | n => n, fun | n => n⟩
theorem Tryz.lays105 : Go.Proofs.Lays.n105 Tryz.prog Tryz.lays105_ren := {
  mixed := by kernel_rfl
  f99 := Tryz.func164.trans (congrArg some (by kernel_rfl))
  f105 := Tryz.func148.trans (congrArg some (by kernel_rfl))
  f165 := Tryz.func165.trans (congrArg some (by kernel_rfl))
  f166 := Tryz.func78.trans (congrArg some (by kernel_rfl))
  f169 := Tryz.func28.trans (congrArg some (by kernel_rfl))
  f170 := Tryz.func76.trans (congrArg some (by kernel_rfl))
  f206 := Tryz.func166.trans (congrArg some (by kernel_rfl))
  f212 := Tryz.func163.trans (congrArg some (by kernel_rfl))
  f240 := Tryz.func95.trans (congrArg some (by kernel_rfl))
  f241 := Tryz.func172.trans (congrArg some (by kernel_rfl))
  f263 := Tryz.func170.trans (congrArg some (by kernel_rfl))
  f264 := Tryz.func171.trans (congrArg some (by kernel_rfl))
  f276 := Tryz.func118.trans (congrArg some (by kernel_rfl))
  f277 := Tryz.func177.trans (congrArg some (by kernel_rfl))
  t0 := Tryz.underlying0
  a0 := Tryz.isAgg0
  z0 := Tryz.sizeOf0
  v0 := Tryz.zeroValue0
  t3 := Tryz.underlying3
  a3 := Tryz.isAgg3
  z3 := Tryz.sizeOf3
  v3 := Tryz.zeroValue3
  t4 := Tryz.underlying4
  a4 := Tryz.isAgg4
  z4 := Tryz.sizeOf4
  v4 := Tryz.zeroValue4
  t5 := Tryz.underlying5
  a5 := Tryz.isAgg5
  z5 := Tryz.sizeOf5
  v5 := Tryz.zeroValue5
  t9 := Tryz.underlying9
  a9 := Tryz.isAgg9
  z9 := Tryz.sizeOf9
  v9 := Tryz.zeroValue9
  t20 := Tryz.underlying20
  a20 := Tryz.isAgg20
  z20 := Tryz.sizeOf20
  v20 := Tryz.zeroValue20
  t37 := Tryz.underlying47
  a37 := Tryz.isAgg47
  z37 := Tryz.sizeOf47
  v37 := Tryz.zeroValue47
  t46 := Tryz.underlying239
  a46 := Tryz.isAgg239
  z46 := Tryz.sizeOf239
  v46 := Tryz.zeroValue239
  t51 := Tryz.underlying248
  a51 := Tryz.isAgg248
  z51 := Tryz.sizeOf248
  v51 := Tryz.zeroValue248
  t53 := Tryz.underlying251
  a53 := Tryz.isAgg251
  z53 := Tryz.sizeOf251
  v53 := Tryz.zeroValue251
  t70 := Tryz.underlying65
  a70 := Tryz.isAgg65
  z70 := Tryz.sizeOf65
  v70 := Tryz.zeroValue65
  t72 := Tryz.underlying67
  a72 := Tryz.isAgg67
  z72 := Tryz.sizeOf67
  v72 := Tryz.zeroValue67
  t75 := Tryz.underlying158
  a75 := Tryz.isAgg158
  z75 := Tryz.sizeOf158
  v75 := Tryz.zeroValue158
  t76 := Tryz.underlying159
  a76 := Tryz.isAgg159
  z76 := Tryz.sizeOf159
  v76 := Tryz.zeroValue159
  t109 := Tryz.underlying240
  a109 := Tryz.isAgg240
  z109 := Tryz.sizeOf240
  v109 := Tryz.zeroValue240
  t127 := Tryz.underlying118
  a127 := Tryz.isAgg118
  z127 := Tryz.sizeOf118
  v127 := Tryz.zeroValue118
  t146 := Tryz.underlying249
  a146 := Tryz.isAgg249
  z146 := Tryz.sizeOf249
  v146 := Tryz.zeroValue249
  t148 := Tryz.underlying252
  a148 := Tryz.isAgg252
  z148 := Tryz.sizeOf252
  v148 := Tryz.zeroValue252
  t164 := Tryz.underlying201
  a164 := Tryz.isAgg201
  z164 := Tryz.sizeOf201
  v164 := Tryz.zeroValue201 }
theorem Tryz.Builder_Extra_105 : Builder.Extra Tryz.prog Tryz.lays105_ren := {
  sizeBuilder := by kernel_rfl
  liesBuilder := by kernel_rfl
  t5 := Tryz.underlying5
  a5 := Tryz.isAgg5
  z5 := Tryz.sizeOf5
  v5 := Tryz.zeroValue5
  infoByte := by kernel_rfl
  cellsByte := by kernel_rfl
  sizeByte := by kernel_rfl
  neB5 := by decide }
open Go.RowKit Go.Lib in
open Go.RowKit Go.Lib in
open Go.RowKit Go.Lib in
open Go.RowKit Go.Lib in
open Go.RowKit Go.Lib in
open Go.RowKit Go.Lib in
open Go.RowKit Go.Lib in
theorem Tryz.strings_Repeat (s : ByteArray) (c : Nat) (w : World) (hc : c ≤ 9223372036854775807) (hlen : s.size * c ≤ 140737488355328) :
    Calls Tryz.prog 148 #[.string s, .int .i64 c] w fun e w' => e = .returned (.string ⟨(Lib.repeatL s.data.toList c).toArray⟩) ∧ Below w.heap.size w w' := Any.strings_Repeat Tryz.lays105 Tryz.Builder_Extra_105 s c w hc hlen
end Go.Proofs

/-
  Numbers in digits: plain laws, no program in sight. Decimal texts; rows of limbs, the lowest first, to any base.
-/
namespace Go.Lite
abbrev Str := List Nat
/-! ### Decimal texts -/
def decN (n : Nat) : Str := if h : n < 10 then [48 + n] else decN (n / 10) ++ [48 + n % 10]
termination_by n
decreasing_by omega
theorem decN_small {n : Nat} (h : n < 10) : decN n = [48 + n] := by rw [decN, dif_pos h]
theorem decN_big {n : Nat} (h : ¬ n < 10) : decN n = decN (n / 10) ++ [48 + n % 10] := by rw [decN, dif_neg h]
theorem decN_step {n d : Nat} (hn : 0 < n) (hd : d < 10) : decN (10 * n + d) = decN n ++ [48 + d] := by
  rw [decN_big (by omega), show (10 * n + d) / 10 = n by omega, show (10 * n + d) % 10 = d by omega]
theorem decN_ind {P : Nat → Prop} (h1 : ∀ n, n < 10 → P n) (h2 : ∀ n d, 0 < n → d < 10 → P n → P (10 * n + d)) (n : Nat) : P n := by
  induction n using Nat.strongRecOn with
  | _ n ih =>
    by_cases h : n < 10
    · exact h1 n h
    · have := h2 (n / 10) (n % 10) (by omega) (by omega) (ih (n / 10) (by omega))
      rwa [show 10 * (n / 10) + n % 10 = n by omega] at this
def Digs (d : Str) : Prop := ∀ c ∈ d, 48 ≤ c ∧ c ≤ 57
theorem Digs.append {a b : Str} (ha : Digs a) (hb : Digs b) : Digs (a ++ b) := fun c hc => (List.mem_append.1 hc).elim (ha c) (hb c)
theorem Digs.one {d : Nat} (h : d < 10) : Digs [48 + d] := fun c hc => by rw [List.mem_singleton.1 hc]; omega
theorem Digs.take {a : Str} (h : Digs a) (n : Nat) : Digs (a.take n) := fun c hc => h c (List.mem_of_mem_take hc)
theorem Digs.drop {a : Str} (h : Digs a) (n : Nat) : Digs (a.drop n) := fun c hc => h c (List.mem_of_mem_drop hc)
theorem Digs.nil : Digs [] := fun c hc => by cases hc
theorem decN_digs (n : Nat) : Digs (decN n) := decN_ind (P := fun n => Digs (decN n)) (fun n h => by rw [decN_small h]; exact .one h) (fun n d hn hd ih => by rw [decN_step hn hd]; exact ih.append (.one hd)) n
theorem decN_ne (n : Nat) : decN n ≠ [] := by
  by_cases h : n < 10
  · rw [decN_small h]; simp
  · rw [decN_big h]; simp
def dval (d : Str) : Nat := d.foldl (fun n c => 10 * n + (c - 48)) 0
theorem dval_snoc (d : Str) (c : Nat) : dval (d ++ [c]) = 10 * dval d + (c - 48) := by rw [dval, List.foldl_append]; rfl
theorem dval_nil : dval [] = 0 := rfl
theorem dval_foldl (d : Str) : ∀ a, d.foldl (fun n c => 10 * n + (c - 48)) a = a * 10 ^ d.length + dval d := by
  induction d with
  | nil => intro a; simp [dval]
  | cons c d ih =>
    intro a
    have h0 : dval (c :: d) = (10 * 0 + (c - 48)) * 10 ^ d.length + dval d := by rw [dval, List.foldl_cons, ih]
    rw [Nat.mul_zero, Nat.zero_add] at h0
    rw [List.foldl_cons, ih, h0, List.length_cons, Nat.pow_succ]
    generalize 10 ^ d.length = p
    rw [Nat.add_mul, show 10 * a * p = a * (p * 10) by rw [Nat.mul_comm 10 a, Nat.mul_assoc, Nat.mul_comm 10 p]]
    omega
theorem dval_append (a b : Str) : dval (a ++ b) = dval a * 10 ^ b.length + dval b := by
  rw [dval, List.foldl_append, dval_foldl]; rfl
theorem dval_lt {d : Str} (h : Digs d) : dval d < 10 ^ d.length := by
  have key : ∀ d : Str, Digs d → dval d < 10 ^ d.length := by
    intro d
    induction d with
    | nil => intro _; simp [dval]
    | cons c d ih =>
      intro h
      have h1 := ih fun x hx => h x (by simp [hx])
      have h2 := h c (by simp)
      rw [show c :: d = [c] ++ d from rfl, dval_append, List.length_append, List.length_singleton, Nat.pow_add]
      have h3 : dval [c] = c - 48 := by simp [dval]
      rw [h3]
      have h4 : (c - 48) * 10 ^ d.length ≤ 9 * 10 ^ d.length := Nat.mul_le_mul_right _ (by omega)
      generalize 10 ^ d.length = p at *
      omega
  exact key d h
theorem dval_decN (n : Nat) : dval (decN n) = n := decN_ind (P := fun n => dval (decN n) = n) (fun n h => by rw [decN_small h]; simp [dval]) (fun n d hn hd ih => by rw [decN_step hn hd, dval_snoc, ih]; omega) n
theorem decN_inj {a b : Nat} (h : decN a = decN b) : a = b := by rw [← dval_decN a, h, dval_decN]
theorem decN_len (n : Nat) : n < 10 ^ (decN n).length := by
  have := dval_lt (decN_digs n)
  rwa [dval_decN] at this
theorem decN_len_ge (n : Nat) : 0 < n → 10 ^ ((decN n).length - 1) ≤ n := decN_ind (P := fun n => 0 < n → 10 ^ ((decN n).length - 1) ≤ n) (fun n h h0 => by rw [decN_small h]; exact h0) (fun n d hn hd ih _ => by
  rw [decN_step hn hd, List.length_append, List.length_singleton, Nat.add_sub_cancel]
  have h1 := ih hn
  have h2 : (decN n).length = (decN n).length - 1 + 1 := by
    have := List.length_pos_iff.2 (decN_ne n); omega
  rw [h2, Nat.pow_succ]
  omega) n
theorem decN_len_le {n k : Nat} (hk : 0 < k) : (decN n).length ≤ k ↔ n < 10 ^ k := by
  constructor
  · intro h
    exact Nat.lt_of_lt_of_le (decN_len n) (Nat.pow_le_pow_right (by omega) h)
  · intro h
    by_cases h0 : n = 0
    · subst h0; rw [decN_small (by omega)]; exact hk
    · have h1 := decN_len_ge n (by omega)
      rcases Nat.lt_or_ge k (decN n).length with h2 | h2
      · have : 10 ^ k ≤ 10 ^ ((decN n).length - 1) := Nat.pow_le_pow_right (by omega) (by omega)
        omega
      · exact h2
theorem decN_head (n : Nat) : (decN n)[0]? = some 48 → n = 0 := decN_ind (P := fun n => (decN n)[0]? = some 48 → n = 0) (fun n h h0 => by
  rw [decN_small h] at h0
  simp at h0; omega) (fun n d hn hd ih h0 => by
  rw [decN_step hn hd, List.getElem?_append_left (List.length_pos_iff.2 (decN_ne n))] at h0
  have := ih h0; omega) n
theorem decN_of {d : Str} (h : Digs d) (hne : d ≠ []) (h0 : d[0]? ≠ some 48) : decN (dval d) = d := by
  have key : ∀ (n : Nat) (d : Str), d.length = n → Digs d → d ≠ [] → d[0]? ≠ some 48 → decN (dval d) = d ∧ 0 < dval d := by
    intro n
    induction n with
    | zero => intro d hl _ hne _; exact absurd (List.eq_nil_of_length_eq_zero hl) hne
    | succ n ih =>
      intro d hl h hne h0
      obtain ⟨e, c, rfl⟩ : ∃ e c, d = e ++ [c] := ⟨d.dropLast, d.getLast hne, (List.dropLast_concat_getLast hne).symm⟩
      have hc := h c (by simp)
      have hdc : c = 48 + (c - 48) := by omega
      by_cases he : e = []
      · subst he
        have hc48 : c ≠ 48 := fun e => h0 (by rw [e]; rfl)
        have hv : dval ([] ++ [c]) = c - 48 := by rw [dval_snoc, dval_nil]; omega
        rw [hv]
        exact ⟨by rw [decN_small (by omega)]; simp; omega, by omega⟩
      · have h1 := ih e (by simpa using hl) (fun x hx => h x (by simp [hx])) he (by
          rw [List.getElem?_append_left (List.length_pos_iff.2 he)] at h0; exact h0)
        rw [dval_snoc]
        refine ⟨?_, by omega⟩
        rw [decN_step h1.2 (by omega), h1.1, ← hdc]
  exact (key d.length d rfl h hne h0).1
def decZ (z : Int) : Str := if z < 0 then 45 :: decN z.natAbs else decN z.natAbs
theorem decZ_nonneg (n : Nat) : decZ n = decN n := by
  unfold decZ; rw [if_neg (by omega)]; simp
theorem decZ_neg {n : Nat} (h : 0 < n) : decZ (-(n : Int)) = 45 :: decN n := by
  unfold decZ; rw [if_pos (by omega)]; simp
theorem decN_first (n : Nat) : ∃ c, (decN n)[0]? = some c ∧ 48 ≤ c ∧ c ≤ 57 := by
  have hne := List.length_pos_iff.2 (decN_ne n)
  exact ⟨(decN n)[0], List.getElem?_eq_getElem hne, decN_digs n _ (List.getElem_mem hne)⟩
theorem decZ_inj {a b : Int} (h : decZ a = decZ b) : a = b := by
  unfold decZ at h
  obtain ⟨ca, ha, ha1, ha2⟩ := decN_first a.natAbs
  obtain ⟨cb, hb, hb1, hb2⟩ := decN_first b.natAbs
  split at h <;> split at h
  · have := decN_inj (List.cons.inj h).2; omega
  · rw [← h] at hb; simp at hb; omega
  · rw [h] at ha; simp at ha; omega
  · have := decN_inj h; omega
/-! ### Rows of limbs -/
def limbs (B n : Nat) : List Nat := if h : n = 0 ∨ B < 2 then [] else n % B :: limbs B (n / B)
termination_by n
decreasing_by
  have : ¬ (n = 0 ∨ B < 2) := h
  exact Nat.div_lt_self (by omega) (by omega)
theorem limbs_zero (B : Nat) : limbs B 0 = [] := by rw [limbs, dif_pos (.inl rfl)]
theorem limbs_pos {B n : Nat} (hB : 2 ≤ B) (hn : 0 < n) : limbs B n = n % B :: limbs B (n / B) := by rw [limbs, dif_neg (by omega)]
def lval (B : Nat) : List Nat → Nat
  | [] => 0
  | d :: l => d + B * lval B l
theorem lval_append (B : Nat) (a b : List Nat) : lval B (a ++ b) = lval B a + B ^ a.length * lval B b := by
  induction a with
  | nil => simp [lval]
  | cons d a ih =>
    rw [List.cons_append, lval, lval, ih, List.length_cons, Nat.pow_succ, Nat.mul_add, Nat.mul_comm (B ^ a.length) B, Nat.mul_assoc]
    omega
theorem lval_snoc (B : Nat) (a : List Nat) (d : Nat) : lval B (a ++ [d]) = lval B a + B ^ a.length * d := by
  rw [lval_append]; simp [lval]
def Under (B : Nat) (l : List Nat) : Prop := ∀ d ∈ l, d < B
theorem Under.nil {B : Nat} : Under B [] := fun d h => by cases h
theorem Under.snoc {B : Nat} {l : List Nat} {d : Nat} (h : Under B l) (hd : d < B) : Under B (l ++ [d]) := fun x hx => by
  rcases List.mem_append.1 hx with h1 | h1
  · exact h x h1
  · rw [List.mem_singleton.1 h1]; exact hd
theorem Under.take {B : Nat} {l : List Nat} (h : Under B l) (n : Nat) : Under B (l.take n) := fun x hx => h x (List.mem_of_mem_take hx)
theorem lval_lt {B : Nat} (hB : 0 < B) : ∀ {l : List Nat}, Under B l → lval B l < B ^ l.length
  | [], _ => by simp [lval]
  | d :: l, h => by
    have h1 := lval_lt hB (l := l) fun x hx => h x (by simp [hx])
    have h2 := h d (by simp)
    rw [lval, List.length_cons, Nat.pow_succ]
    have h3 : B * (lval B l + 1) ≤ B * B ^ l.length := Nat.mul_le_mul_left B h1
    rw [Nat.mul_add, Nat.mul_one] at h3
    rw [Nat.mul_comm (B ^ l.length) B]
    omega
theorem limbs_below {B : Nat} (hB : 2 ≤ B) (n : Nat) : Under B (limbs B n) := by
  induction n using Nat.strongRecOn with
  | _ n ih =>
    by_cases h : n = 0
    · subst h; rw [limbs_zero]; exact .nil
    · rw [limbs_pos hB (by omega)]
      intro d hd
      rcases List.mem_cons.1 hd with rfl | hd
      · exact Nat.mod_lt _ (by omega)
      · exact ih (n / B) (Nat.div_lt_self (by omega) (by omega)) d hd
theorem lval_limbs {B : Nat} (hB : 2 ≤ B) (n : Nat) : lval B (limbs B n) = n := by
  induction n using Nat.strongRecOn with
  | _ n ih =>
    by_cases h : n = 0
    · subst h; rw [limbs_zero]; rfl
    · rw [limbs_pos hB (by omega), lval, ih (n / B) (Nat.div_lt_self (by omega) (by omega))]
      exact Nat.mod_add_div n B
theorem limbs_lt_iff {B : Nat} (hB : 2 ≤ B) (n : Nat) : n < B ^ (limbs B n).length := by
  have := lval_lt (by omega) (limbs_below hB n)
  rwa [lval_limbs hB] at this
def trimL (l : List Nat) : List Nat := (l.reverse.dropWhile (· == 0)).reverse
theorem trimL_snoc_zero (l : List Nat) : trimL (l ++ [0]) = trimL l := by
  simp [trimL]
theorem trimL_snoc {d : Nat} (hd : d ≠ 0) (l : List Nat) : trimL (l ++ [d]) = l ++ [d] := by
  have : ((l ++ [d]).reverse.dropWhile (· == 0)) = (l ++ [d]).reverse := by
    rw [List.reverse_append, List.reverse_singleton, List.singleton_append, List.dropWhile_cons]
    simp [hd]
  rw [trimL, this, List.reverse_reverse]
theorem snoc_ind {α : Type} {P : List α → Prop} (h0 : P []) (h1 : ∀ l d, P l → P (l ++ [d])) (l : List α) : P l := by
  have : ∀ l : List α, P l.reverse := by
    intro l
    induction l with
    | nil => exact h0
    | cons d l ih => rw [List.reverse_cons]; exact h1 _ _ ih
  have h := this l.reverse
  rwa [List.reverse_reverse] at h
theorem lval_trimL (B : Nat) : ∀ l, lval B (trimL l) = lval B l := snoc_ind (P := fun l => lval B (trimL l) = lval B l) rfl fun l d ih => by
  by_cases hd : d = 0
  · subst hd; rw [trimL_snoc_zero, ih, lval_snoc]; simp
  · rw [trimL_snoc hd]
theorem trimL_below {B : Nat} : ∀ l, Under B l → Under B (trimL l) := snoc_ind (P := fun l => Under B l → Under B (trimL l)) (fun _ => .nil) fun l d ih h => by
  by_cases hd : d = 0
  · subst hd; rw [trimL_snoc_zero]; exact ih fun x hx => h x (by simp [hx])
  · rw [trimL_snoc hd]; exact h
theorem trimL_len : ∀ l, (trimL l).length ≤ l.length := snoc_ind (P := fun l => (trimL l).length ≤ l.length) (Nat.le_refl _) fun l d ih => by
  by_cases hd : d = 0
  · subst hd; rw [trimL_snoc_zero, List.length_append]; omega
  · rw [trimL_snoc hd]; exact Nat.le_refl _
theorem trimL_take (l : List Nat) : trimL l = l.take (trimL l).length := snoc_ind (P := fun l => trimL l = l.take (trimL l).length) rfl (fun l d ih => by
  by_cases hd : d = 0
  · subst hd
    rw [trimL_snoc_zero]
    rw [List.take_append_of_le_length (trimL_len l)]
    exact ih
  · rw [trimL_snoc hd, List.take_length]) l
def Last (l : List Nat) : Prop := l = [] ∨ ∃ a d, l = a ++ [d] ∧ d ≠ 0
theorem trimL_last : ∀ l, Last (trimL l) := snoc_ind (P := fun l => Last (trimL l)) (.inl rfl) fun l d ih => by
  by_cases hd : d = 0
  · subst hd; rw [trimL_snoc_zero]; exact ih
  · rw [trimL_snoc hd]; exact .inr ⟨l, d, rfl, hd⟩
theorem limbs_of {B : Nat} (hB : 2 ≤ B) : ∀ l, Under B l → Last l → limbs B (lval B l) = l
  | [], _, _ => limbs_zero B
  | d :: l, hb, hl => by
    have hd := hb d (by simp)
    have hb' : Under B l := fun x hx => hb x (by simp [hx])
    have hl' : Last l := by
      rcases hl with h | ⟨a, e, h, he⟩
      · cases h
      · cases a with
        | nil => simp at h; exact .inl h.2
        | cons x a => simp at h; exact .inr ⟨a, e, h.2, he⟩
    have hpos : 0 < lval B (d :: l) := by
      rcases hl with h | ⟨a, e, h, he⟩
      · cases h
      · rw [h, lval_snoc]
        have : 0 < B ^ a.length * e := Nat.mul_pos (Nat.pow_pos (by omega)) (by omega)
        omega
    rw [limbs_pos hB hpos, lval]
    have h1 : (d + B * lval B l) % B = d := by rw [Nat.add_mul_mod_self_left]; exact Nat.mod_eq_of_lt hd
    have h2 : (d + B * lval B l) / B = lval B l := by rw [Nat.add_mul_div_left _ _ (by omega), Nat.div_eq_of_lt hd, Nat.zero_add]
    rw [h1, h2, limbs_of hB l hb' hl']
theorem limbs_trim {B : Nat} (hB : 2 ≤ B) {l : List Nat} (h : Under B l) : limbs B (lval B l) = trimL l := by
  rw [← lval_trimL]
  exact limbs_of hB _ (trimL_below l h) (trimL_last l)
theorem limbs_last {B : Nat} (hB : 2 ≤ B) (n : Nat) : Last (limbs B n) := by
  have h := limbs_trim hB (limbs_below hB n)
  rw [lval_limbs hB] at h
  rw [h]; exact trimL_last _
theorem limbs_len_le {B : Nat} (hB : 2 ≤ B) {n k : Nat} (h : n < B ^ k) : (limbs B n).length ≤ k := by
  induction k generalizing n with
  | zero =>
    simp at h; subst h; rw [limbs_zero]; simp
  | succ k ih =>
    by_cases h0 : n = 0
    · subst h0; rw [limbs_zero]; simp
    · rw [limbs_pos hB (by omega), List.length_cons]
      have : n / B < B ^ k := by
        rw [Nat.div_lt_iff_lt_mul (by omega), ← Nat.pow_succ]; exact h
      have := ih this
      omega
end Go.Lite

/-
  Sums, differences, comparisons of rows of limbs: plain laws.
-/
namespace Go.Lite
def atN (l : List Nat) (i : Nat) : Nat := (l[i]?).getD 0
theorem atN_at {l : List Nat} {i : Nat} (h : i < l.length) : l[i]? = some (atN l i) := by
  unfold atN; rw [List.getElem?_eq_getElem h]; rfl
theorem atN_ge {l : List Nat} {i : Nat} (h : l.length ≤ i) : atN l i = 0 := by
  unfold atN; rw [List.getElem?_eq_none h]; rfl
theorem atN_lt {B : Nat} (hB : 0 < B) {l : List Nat} (h : Under B l) (i : Nat) : atN l i < B := by
  by_cases hi : i < l.length
  · exact h _ (List.mem_of_getElem? (atN_at hi))
  · rw [atN_ge (by omega)]; exact hB
theorem lval_take_succ (B : Nat) (l : List Nat) (i : Nat) : lval B (l.take (i + 1)) = lval B (l.take i) + B ^ i * atN l i := by
  by_cases hi : i < l.length
  · rw [List.take_add_one, atN_at hi, Option.toList_some, lval_snoc, List.length_take, Nat.min_eq_left (by omega)]
  · rw [List.take_of_length_le (by omega), List.take_of_length_le (by omega), atN_ge (by omega), Nat.mul_zero, Nat.add_zero]
theorem plus_step {B i c : Nat} {out x y : List Nat} (hl : out.length = i) (h : lval B out + B ^ i * c = lval B (x.take i) + lval B (y.take i)) :
    lval B (out ++ [(atN x i + atN y i + c) % B]) + B ^ (i + 1) * ((atN x i + atN y i + c) / B) = lval B (x.take (i + 1)) + lval B (y.take (i + 1)) := by
  rw [lval_snoc, hl, lval_take_succ, lval_take_succ, Nat.pow_succ]
  generalize hd : atN x i + atN y i + c = d
  have h1 : B ^ i * (d % B) + B ^ i * B * (d / B) = B ^ i * d := by rw [Nat.mul_assoc, ← Nat.mul_add, Nat.mod_add_div]
  have h2 : B ^ i * d = B ^ i * atN x i + B ^ i * atN y i + B ^ i * c := by rw [← hd, Nat.mul_add, Nat.mul_add]
  omega
theorem plus_end {B N c : Nat} {out x y : List Nat} (hB : 2 ≤ B) (hx : Under B x) (hy : Under B y) (h1 : x.length + 1 ≤ N) (h2 : y.length + 1 ≤ N) (h : lval B out + B ^ N * c = lval B x + lval B y) : c = 0 := by
  have a1 := lval_lt (by omega) hx
  have a2 := lval_lt (by omega) hy
  have b1 : B ^ x.length ≤ B ^ (N - 1) := Nat.pow_le_pow_right (by omega) (by omega)
  have b2 : B ^ y.length ≤ B ^ (N - 1) := Nat.pow_le_pow_right (by omega) (by omega)
  have b3 : B ^ N = B ^ (N - 1) * B := by rw [← Nat.pow_succ]; congr 1; omega
  have b4 : B ^ (N - 1) * 2 ≤ B ^ (N - 1) * B := Nat.mul_le_mul_left _ hB
  rcases Nat.eq_zero_or_pos c with h0 | h0
  · exact h0
  · have : B ^ N * 1 ≤ B ^ N * c := Nat.mul_le_mul_left _ h0
    omega
def lessE (B x y b : Nat) : Nat := if y + b ≤ x then x - (y + b) else x + B - (y + b)
def lessB (x y b : Nat) : Nat := if y + b ≤ x then 0 else 1
theorem lessE_lt {B x y b : Nat} (hx : x < B) (hy : y < B) (hb : b ≤ 1) : lessE B x y b < B := by
  unfold lessE; split <;> omega
theorem lessB_le (x y b : Nat) : lessB x y b ≤ 1 := by unfold lessB; split <;> omega
theorem less_step {B i b : Nat} {out x y : List Nat} (hl : out.length = i) (hx : atN x i < B) (hy : atN y i < B) (hb : b ≤ 1) (h : lval B (x.take i) + B ^ i * b = lval B out + lval B (y.take i)) :
    lval B (x.take (i + 1)) + B ^ (i + 1) * lessB (atN x i) (atN y i) b = lval B (out ++ [lessE B (atN x i) (atN y i) b]) + lval B (y.take (i + 1)) := by
  rw [lval_snoc, hl, lval_take_succ, lval_take_succ, Nat.pow_succ]
  have h1 : atN x i + B * lessB (atN x i) (atN y i) b = lessE B (atN x i) (atN y i) b + atN y i + b := by
    unfold lessB lessE; split <;> simp <;> omega
  generalize lessB (atN x i) (atN y i) b = b' at *
  generalize lessE B (atN x i) (atN y i) b = e at *
  have h2 := congrArg (B ^ i * ·) h1
  simp only [Nat.mul_add] at h2
  rw [Nat.mul_assoc]
  omega
theorem less_end {B b : Nat} {out x y : List Nat} (hB : 2 ≤ B) (ho : Under B out) (hl : out.length = x.length) (hle : lval B y ≤ lval B x) (h : lval B x + B ^ x.length * b = lval B out + lval B y) : b = 0 := by
  have a1 := lval_lt (by omega) ho
  rw [hl] at a1
  rcases Nat.eq_zero_or_pos b with h0 | h0
  · exact h0
  · have : B ^ x.length * 1 ≤ B ^ x.length * b := Nat.mul_le_mul_left _ h0
    omega
def cmpN (a b : Nat) : Int := if a < b then -1 else if b < a then 1 else 0
def sgn (z : Int) : Int := if z < 0 then -1 else if 0 < z then 1 else 0
theorem last_ge {B : Nat} {l : List Nat} (hl : Last l) (h0 : l ≠ []) : B ^ (l.length - 1) ≤ lval B l := by
  rcases hl with h | ⟨a, d, rfl, hd⟩
  · exact absurd h h0
  · rw [lval_snoc, List.length_append, List.length_singleton, Nat.add_sub_cancel]
    have : B ^ a.length * 1 ≤ B ^ a.length * d := Nat.mul_le_mul_left _ (by omega)
    omega
theorem cmp_len {B : Nat} (hB : 2 ≤ B) {x y : List Nat} (hx : Under B x) (hy : Last y) (h : x.length < y.length) : lval B x < lval B y := by
  have a1 := lval_lt (by omega) hx
  have a2 := last_ge (B := B) hy (fun e => by subst e; simp at h)
  have b1 : B ^ x.length ≤ B ^ (y.length - 1) := Nat.pow_le_pow_right (by omega) (by omega)
  omega
theorem lval_split (B : Nat) (l : List Nat) {j : Nat} (h : j < l.length) : lval B l = lval B (l.take j) + B ^ j * (atN l j + B * lval B (l.drop (j + 1))) := by
  conv => lhs; rw [← List.take_append_drop j l]
  rw [lval_append, List.length_take, Nat.min_eq_left (by omega), List.drop_eq_getElem_cons h, lval]
  have := atN_at h
  rw [List.getElem?_eq_getElem h] at this
  simp only [Option.some.injEq] at this
  rw [this]
theorem cmp_at {B : Nat} (hB : 2 ≤ B) {x y : List Nat} {j : Nat} (hx : Under B x) (h1 : j < x.length) (h2 : j < y.length) (hd : x.drop (j + 1) = y.drop (j + 1)) (h : atN x j < atN y j) : lval B x < lval B y := by
  rw [lval_split B x h1, lval_split B y h2, hd]
  have a1 := lval_lt (by omega) (hx.take j)
  rw [List.length_take, Nat.min_eq_left (by omega)] at a1
  generalize B * lval B (y.drop (j + 1)) = q
  have : B ^ j * (atN x j + q + 1) ≤ B ^ j * (atN y j + q) := Nat.mul_le_mul_left _ (by omega)
  rw [Nat.mul_add, Nat.mul_one] at this
  omega
def plusD (B : Nat) (x y : List Nat) : Nat → List Nat × Nat
  | 0 => ([], 0)
  | i + 1 => ((plusD B x y i).1 ++ [(atN x i + atN y i + (plusD B x y i).2) % B], (atN x i + atN y i + (plusD B x y i).2) / B)
theorem plusD_ok {B : Nat} (hB : 2 ≤ B) {x y : List Nat} (hx : Under B x) (hy : Under B y) : ∀ i, (plusD B x y i).1.length = i ∧ Under B (plusD B x y i).1 ∧ (plusD B x y i).2 ≤ 1 ∧
    lval B (plusD B x y i).1 + B ^ i * (plusD B x y i).2 = lval B (x.take i) + lval B (y.take i)
  | 0 => by simp [plusD, Under.nil, lval]
  | i + 1 => by
    obtain ⟨h1, h2, h3, h4⟩ := plusD_ok hB hx hy i
    have a1 := atN_lt (by omega) hx i
    have a2 := atN_lt (by omega) hy i
    refine ⟨by simp [plusD, h1], h2.snoc (Nat.mod_lt _ (by omega)), ?_, plus_step h1 h4⟩
    show (atN x i + atN y i + (plusD B x y i).2) / B ≤ 1
    rw [Nat.div_le_iff_le_mul_add_pred (by omega)]
    omega
theorem plusD_end {B : Nat} (hB : 2 ≤ B) {x y : List Nat} (hx : Under B x) (hy : Under B y) {N : Nat} (h1 : x.length + 1 ≤ N) (h2 : y.length + 1 ≤ N) : lval B (plusD B x y N).1 = lval B x + lval B y ∧ (plusD B x y N).2 = 0 := by
  obtain ⟨g1, g2, g3, g4⟩ := plusD_ok hB hx hy N
  rw [List.take_of_length_le (by omega), List.take_of_length_le (by omega)] at g4
  have h0 := plus_end hB hx hy h1 h2 g4
  rw [h0] at g4
  exact ⟨by simpa using g4, h0⟩
def lessD (B : Nat) (x y : List Nat) : Nat → List Nat × Nat
  | 0 => ([], 0)
  | i + 1 => ((lessD B x y i).1 ++ [lessE B (atN x i) (atN y i) (lessD B x y i).2], lessB (atN x i) (atN y i) (lessD B x y i).2)
theorem lessD_ok {B : Nat} (hB : 2 ≤ B) {x y : List Nat} (hx : Under B x) (hy : Under B y) : ∀ i, (lessD B x y i).1.length = i ∧ Under B (lessD B x y i).1 ∧ (lessD B x y i).2 ≤ 1 ∧
    lval B (x.take i) + B ^ i * (lessD B x y i).2 = lval B (lessD B x y i).1 + lval B (y.take i)
  | 0 => by simp [lessD, Under.nil, lval]
  | i + 1 => by
    obtain ⟨h1, h2, h3, h4⟩ := lessD_ok hB hx hy i
    have a1 := atN_lt (by omega) hx i
    have a2 := atN_lt (by omega) hy i
    exact ⟨by simp [lessD, h1], h2.snoc (lessE_lt a1 a2 h3), lessB_le _ _ _, less_step h1 a1 a2 h3 h4⟩
theorem lessD_end {B : Nat} (hB : 2 ≤ B) {x y : List Nat} (hx : Under B x) (hy : Under B y) (hl : y.length ≤ x.length) (hle : lval B y ≤ lval B x) : lval B (lessD B x y x.length).1 = lval B x - lval B y := by
  obtain ⟨g1, g2, g3, g4⟩ := lessD_ok hB hx hy x.length
  rw [List.take_of_length_le (Nat.le_refl _), List.take_of_length_le hl] at g4
  have h0 := less_end hB g2 g1 hle g4
  rw [h0] at g4
  omega
end Go.Lite

/-
  Products of rows of limbs: plain laws.
-/
namespace Go.Lite
theorem atN_set {l : List Nat} {p v : Nat} (h : p < l.length) : atN (l.set p v) p = v := by
  unfold atN; rw [List.getElem?_set_self h]; rfl
theorem lval_set (B : Nat) {l : List Nat} {p v : Nat} (h : p < l.length) : lval B (l.set p v) + B ^ p * atN l p = lval B l + B ^ p * v := by
  have h1 := lval_split B l h
  have h2 := lval_split B (l.set p v) (j := p) (by simpa using h)
  rw [atN_set h] at h2
  have h3 : (l.set p v).take p = l.take p := by
    rw [List.take_set_of_le (Nat.le_refl p)]
  have h4 : (l.set p v).drop (p + 1) = l.drop (p + 1) := by
    rw [List.drop_set_of_lt (by omega)]
  rw [h3, h4, Nat.mul_add] at h2
  rw [Nat.mul_add] at h1
  omega
theorem under_set {B : Nat} {l : List Nat} (h : Under B l) {p v : Nat} (hv : v < B) : Under B (l.set p v) := fun x hx => by
  rcases List.mem_or_eq_of_mem_set hx with h1 | h1
  · exact h x h1
  · rw [h1]; exact hv
theorem set_same {l : List Nat} {p v : Nat} (h : l[p]? = some v) : l.set p v = l := by
  apply List.ext_getElem?
  intro i
  rw [List.getElem?_set]
  split
  · rename_i e
    subst e
    rw [h, if_pos (List.getElem?_eq_some_iff.1 h).1]
  · rfl
def mulIn (B a : Nat) (y Z : List Nat) (i : Nat) : Nat → List Nat × Nat
  | 0 => (Z, 0)
  | j + 1 => ((mulIn B a y Z i j).1.set (i + j) ((atN (mulIn B a y Z i j).1 (i + j) + a * atN y j + (mulIn B a y Z i j).2) % B), (atN (mulIn B a y Z i j).1 (i + j) + a * atN y j + (mulIn B a y Z i j).2) / B)
theorem mul_room {B z a b c : Nat} (hz : z < B) (ha : a < B) (hb : b < B) (hc : c < B) : z + a * b + c < B * B := by
  have h1 : a * b ≤ (B - 1) * (B - 1) := Nat.mul_le_mul (by omega) (by omega)
  obtain ⟨k, rfl⟩ : ∃ k, B = k + 1 := ⟨B - 1, by omega⟩
  simp only [Nat.add_sub_cancel] at h1
  have h2 : (k + 1) * (k + 1) = k * k + k + k + 1 := by rw [Nat.mul_add, Nat.add_mul]; omega
  omega
theorem mulIn_ok {B a : Nat} {y Z : List Nat} {i : Nat} (hB : 2 ≤ B) (ha : a < B) (hy : Under B y) (hZ : Under B Z) : ∀ j, i + j ≤ Z.length → (mulIn B a y Z i j).1.length = Z.length ∧ Under B (mulIn B a y Z i j).1 ∧ (mulIn B a y Z i j).2 < B ∧
    lval B (mulIn B a y Z i j).1 + B ^ (i + j) * (mulIn B a y Z i j).2 = lval B Z + B ^ i * (a * lval B (y.take j))
  | 0, _ => ⟨rfl, hZ, by show 0 < B; omega, by simp [mulIn, lval]⟩
  | j + 1, h => by
    obtain ⟨h1, h2, h3, h4⟩ := mulIn_ok (i := i) hB ha hy hZ j (by omega)
    have a1 := atN_lt (by omega) h2 (i + j)
    have a2 := atN_lt (by omega) hy j
    have hr := mul_room a1 ha a2 h3
    refine ⟨by simp [mulIn, h1], under_set h2 (Nat.mod_lt _ (by omega)), Nat.div_lt_of_lt_mul hr, ?_⟩
    have hs := lval_set B (l := (mulIn B a y Z i j).1) (p := i + j) (v := (atN (mulIn B a y Z i j).1 (i + j) + a * atN y j + (mulIn B a y Z i j).2) % B) (by omega)
    show lval B ((mulIn B a y Z i j).1.set (i + j) _) + B ^ (i + (j + 1)) * ((atN (mulIn B a y Z i j).1 (i + j) + a * atN y j + (mulIn B a y Z i j).2) / B) = _
    rw [lval_take_succ]
    generalize (mulIn B a y Z i j).1 = W at *
    generalize (mulIn B a y Z i j).2 = c at *
    generalize lval B (W.set (i + j) ((atN W (i + j) + a * atN y j + c) % B)) = V at *
    generalize hd : atN W (i + j) + a * atN y j + c = d at *
    have e1 : B ^ (i + j) * (d % B) + B ^ (i + j) * B * (d / B) = B ^ (i + j) * d := by rw [Nat.mul_assoc, ← Nat.mul_add, Nat.mod_add_div]
    have e2 : B ^ (i + j) * d = B ^ (i + j) * atN W (i + j) + B ^ (i + j) * (a * atN y j) + B ^ (i + j) * c := by rw [← hd, Nat.mul_add, Nat.mul_add]
    have e3 : B ^ i * (a * (lval B (y.take j) + B ^ j * atN y j)) = B ^ i * (a * lval B (y.take j)) + B ^ (i + j) * (a * atN y j) := by
      rw [Nat.mul_add, Nat.mul_add, Nat.pow_add, Nat.mul_assoc (B ^ i), Nat.mul_left_comm a]
    have e4 : B ^ (i + (j + 1)) = B ^ (i + j) * B := by rw [← Nat.add_assoc, Nat.pow_succ]
    rw [e3, e4]
    omega
theorem mulIn_end {B a : Nat} {y Z : List Nat} {i : Nat} (hB : 2 ≤ B) (ha : a < B) (hy : Under B y) (hZ : Under B Z) (hlen : i + y.length + 1 ≤ Z.length) (hv : lval B Z < B ^ (i + y.length)) :
    (mulIn B a y Z i (y.length + 1)).2 = 0 ∧ lval B (mulIn B a y Z i (y.length + 1)).1 = lval B Z + B ^ i * (a * lval B y) := by
  obtain ⟨h1, h2, h3, h4⟩ := mulIn_ok (i := i) hB ha hy hZ (y.length + 1) (by omega)
  rw [List.take_of_length_le (by omega)] at h4
  have hly := lval_lt (by omega) hy
  have hle : a * lval B y ≤ (B - 1) * (B ^ y.length - 1) := Nat.mul_le_mul (by omega) (by omega)
  have hp : 0 < B ^ y.length := Nat.pow_pos (by omega)
  have hpi : 0 < B ^ i := Nat.pow_pos (by omega)
  have htot : lval B Z + B ^ i * (a * lval B y) < B ^ (i + (y.length + 1)) := by
    have q1 : B ^ i * (a * lval B y) ≤ B ^ i * ((B - 1) * B ^ y.length) := Nat.mul_le_mul_left _ (Nat.le_trans hle (Nat.mul_le_mul_left _ (by omega)))
    have q2 : B ^ (i + (y.length + 1)) = B ^ (i + y.length) + B ^ i * ((B - 1) * B ^ y.length) := by
      rw [← Nat.add_assoc, Nat.pow_succ, Nat.pow_add]
      obtain ⟨k, rfl⟩ : ∃ k, B = k + 1 := ⟨B - 1, by omega⟩
      simp only [Nat.add_sub_cancel]
      generalize (k + 1) ^ i = u
      generalize (k + 1) ^ y.length = w
      rw [Nat.mul_add, Nat.mul_one, Nat.mul_comm k w, Nat.mul_assoc]
      omega
    omega
  have h0 : (mulIn B a y Z i (y.length + 1)).2 = 0 := by
    rcases Nat.eq_zero_or_pos (mulIn B a y Z i (y.length + 1)).2 with h | h
    · exact h
    · have : B ^ (i + (y.length + 1)) * 1 ≤ B ^ (i + (y.length + 1)) * (mulIn B a y Z i (y.length + 1)).2 := Nat.mul_le_mul_left _ h
      omega
  rw [h0] at h4
  exact ⟨h0, by simpa using h4⟩
theorem mulIn_stop {B a : Nat} {y Z : List Nat} {i : Nat} (hB : 2 ≤ B) (ha : a < B) (hy : Under B y) (hZ : Under B Z) (hlen : i + y.length + 1 ≤ Z.length) (h0 : (mulIn B a y Z i y.length).2 = 0) : (mulIn B a y Z i (y.length + 1)).1 = (mulIn B a y Z i y.length).1 := by
  obtain ⟨h1, h2, h3, h4⟩ := mulIn_ok (i := i) hB ha hy hZ y.length (by omega)
  show (mulIn B a y Z i y.length).1.set (i + y.length) _ = _
  rw [h0, atN_ge (l := y) (Nat.le_refl _), Nat.mul_zero, Nat.add_zero, Nat.mod_eq_of_lt (atN_lt (by omega) h2 _)]
  have := atN_at (l := (mulIn B a y Z i y.length).1) (i := i + y.length) (by omega)
  exact set_same this
theorem mul_small {B : Nat} (hB : 2 ≤ B) {x y Z : List Nat} (hx : Under B x) (hy : Under B y) {i : Nat} (h : i ≤ x.length) (h3 : lval B Z = lval B (x.take i) * lval B y) : lval B Z < B ^ (i + y.length) := by
  have a1 := lval_lt (by omega) (hx.take i)
  rw [List.length_take, Nat.min_eq_left h] at a1
  have a2 := lval_lt (by omega) hy
  rw [h3, Nat.pow_add]
  exact Nat.mul_lt_mul'' a1 a2
def mulOut (B : Nat) (x y : List Nat) : Nat → List Nat
  | 0 => List.replicate (x.length + y.length + 1) 0
  | i + 1 => (mulIn B (atN x i) y (mulOut B x y i) i (y.length + 1)).1
theorem lval_zeros (B n : Nat) : lval B (List.replicate n 0) = 0 := by
  induction n with
  | zero => rfl
  | succ n ih => rw [List.replicate_succ, lval, ih]; simp
theorem mulOut_ok {B : Nat} (hB : 2 ≤ B) {x y : List Nat} (hx : Under B x) (hy : Under B y) : ∀ i, i ≤ x.length → (mulOut B x y i).length = x.length + y.length + 1 ∧ Under B (mulOut B x y i) ∧ lval B (mulOut B x y i) = lval B (x.take i) * lval B y
  | 0, _ => ⟨by simp [mulOut], fun d hd => by rw [mulOut] at hd; rw [List.eq_of_mem_replicate hd]; omega, by rw [mulOut, lval_zeros]; simp [lval]⟩
  | i + 1, h => by
    obtain ⟨h1, h2, h3⟩ := mulOut_ok hB hx hy i (by omega)
    have ha := atN_lt (by omega) hx i
    have hv := mul_small hB hx hy (i := i) (by omega) h3
    obtain ⟨g1, g2, _, _⟩ := mulIn_ok (i := i) hB ha hy h2 (y.length + 1) (by omega)
    have g3 := (mulIn_end (i := i) hB ha hy h2 (by omega) hv).2
    refine ⟨by rw [mulOut, g1, h1], by rw [mulOut]; exact g2, ?_⟩
    rw [mulOut, g3, h3, lval_take_succ, Nat.add_mul, Nat.mul_assoc]
end Go.Lite

/-
  Division by digits: plain laws.
-/
namespace Go.Lite
def digV (t : Str) (i : Nat) : Nat := atN t i - 48
def remV (t : Str) (b i : Nat) : Nat := dval (t.take i) % b
def inV (t : Str) (b i : Nat) : Nat := 10 * remV t b i + digV t i
def quoD (t : Str) (b : Nat) : Nat → Str
  | 0 => []
  | i + 1 => quoD t b i ++ [48 + inV t b i / b]
theorem dval_take_succ {t : Str} {i : Nat} (h : i < t.length) : dval (t.take (i + 1)) = 10 * dval (t.take i) + digV t i := by
  rw [List.take_add_one, atN_at h, Option.toList_some, dval_snoc]; rfl
theorem remV_succ {t : Str} {b i : Nat} (h : i < t.length) : remV t b (i + 1) = inV t b i % b := by
  unfold remV inV
  rw [dval_take_succ h]
  unfold remV
  rw [Nat.add_mod, Nat.mul_mod, Nat.add_mod (10 * (dval (t.take i) % b)), Nat.mul_mod 10 (dval (t.take i) % b), Nat.mod_mod]
theorem digV_lt {t : Str} (h : Digs t) {i : Nat} (hi : i < t.length) : digV t i < 10 := by
  have := h _ (List.mem_of_getElem? (atN_at hi))
  unfold digV; omega
theorem inV_lt {t : Str} (h : Digs t) {b i : Nat} (hb : 0 < b) (hi : i < t.length) : inV t b i < 10 * b := by
  have h1 := digV_lt h hi
  have h2 : remV t b i < b := Nat.mod_lt _ hb
  unfold inV; omega
theorem inV_div_lt {t : Str} (h : Digs t) {b i : Nat} (hb : 0 < b) (hi : i < t.length) : inV t b i / b < 10 := by
  rw [Nat.div_lt_iff_lt_mul hb]; exact inV_lt h hb hi
theorem quoD_len (t : Str) (b : Nat) : ∀ i, (quoD t b i).length = i
  | 0 => rfl
  | i + 1 => by simp [quoD, quoD_len t b i]
theorem quoD_digs {t : Str} (h : Digs t) {b : Nat} (hb : 0 < b) : ∀ i, i ≤ t.length → Digs (quoD t b i)
  | 0, _ => .nil
  | i + 1, hi => by
    have := inV_div_lt h hb (i := i) (by omega)
    exact (quoD_digs h hb i (by omega)).append (.one this)
theorem quoD_val {t : Str} {b : Nat} (hb : 0 < b) : ∀ i, i ≤ t.length → dval (quoD t b i) = dval (t.take i) / b
  | 0, _ => by simp [quoD, dval]
  | i + 1, hi => by
    rw [quoD, dval_snoc, quoD_val hb i (by omega), dval_take_succ (by omega), Nat.add_sub_cancel_left]
    unfold inV remV
    have h1 : dval (t.take i) = b * (dval (t.take i) / b) + dval (t.take i) % b := (Nat.div_add_mod _ _).symm
    generalize dval (t.take i) / b = q at *
    generalize dval (t.take i) % b = r at *
    rw [h1, show 10 * (b * q + r) + digV t i = (10 * r + digV t i) + b * (10 * q) by rw [Nat.mul_add, Nat.mul_left_comm]; omega, Nat.add_mul_div_left _ _ hb]
    omega
end Go.Lite

/-
  strconv.Itoa and strings.Repeat: Lean functions in their place, by the shelf's contracts.
-/
namespace Go.Lite
open Go Go.Proofs
variable {nb : NB} {ι : Emb} {H : Heap} {w : World}
theorem Rel.below {w' : World} (r : Rel nb ι H w) (b : RowKit.Below w.heap.size w w') : Rel nb ι H w' ∧ Ext nb ι H w ι H w' := by
  have hk : ∀ b, b < w.heap.size → w'.heap[b]? = w.heap[b]? := b.block
  have hcell : ∀ b i v, w.cell? ⟨b, i, none⟩ = some v → w'.cell? ⟨b, i, none⟩ = some v := fun b i v h => by
    rw [cell?_of_heap (hk b (cell_lt h))]; exact h
  refine ⟨⟨Nat.le_trans r.nbw b.size, ?_, ?_, ?_, ?_, r.inj, r.lt, ?_, nb.keep w _ (fun c hc => hk c (by have := r.nbw; omega)) r.inv⟩, ⟨Emb.le_refl ι, b.size, fun c hc _ => hk c hc, fun k l h _ => ⟨k, l, h, rfl⟩, fun _ _ h => .inl h, Nat.le_refl _, fun _ _ _ => rfl, rfl, ⟨b.os, b.tape, b.output⟩, fun _ _ h => .inl h⟩⟩
  · intro b bs hb
    refine ⟨(r.old b bs hb).1, fun i x hx => ?_⟩
    obtain ⟨v, hv, hr⟩ := (r.old b bs hb).2 i x hx
    exact ⟨v, hcell _ _ _ hv, hr⟩
  · intro j q ds es' fz' ty' hj ho
    obtain ⟨h1, h2, h3, h4⟩ := r.row j q ds es' fz' ty' hj ho
    have hlt := (r.dom j q hj).2.1
    refine ⟨fun i x hx => ?_, fun hf i v hv => ?_, fun he i hi => ?_, h4.of_heap (hk _ hlt)⟩
    · obtain ⟨v, hv, hr⟩ := h1 i x hx
      exact ⟨v, hcell _ _ _ hv, hr⟩
    · rw [cell?_of_heap (hk _ hlt)] at hv
      rw [frozen?_of_heap (hk _ hlt)]
      exact h2 hf i v hv
    · obtain ⟨v, hv⟩ := h3 he i hi
      exact ⟨v, hcell _ _ _ hv⟩
  · intro j q s pos hj ho
    obtain ⟨h0, b, h1, h2⟩ := r.iter j q s pos hj ho
    exact ⟨h0, b, h1, by rw [hk _ (r.dom j q hj).2.1]; exact h2⟩
  · intro j q hj
    obtain ⟨h1, h2, h3⟩ := r.dom j q hj
    exact ⟨h1, Nat.lt_of_lt_of_le h2 b.size, h3⟩
  · intro c cs hb
    obtain ⟨g1, g2, g3⟩ := r.fz c cs hb
    refine ⟨Nat.lt_of_lt_of_le g1 b.size, fun i => by rw [cell?_of_heap (hk _ g1)]; exact g2 i, g3⟩
abbrev TabAt (w : World) : Prop := Lib.TabIs Tryz.prog w "internal/strconv.uint64pow10" .u64 Lib.pow10Tab
theorem tab_keep {n : Nat} (hn : 0 < n) (w w' : World) (h : ∀ b, b < n → w'.heap[b]? = w.heap[b]?) (ht : TabAt w) : TabAt w' := by
  have hg : Tryz.prog.globalNamed "internal/strconv.uint64pow10" = some 0 := by kernel_rfl
  unfold TabAt Lib.TabIs World.var? at *
  rw [hg] at ht ⊢
  simp only [Option.bind_some] at ht ⊢
  rw [h 0 hn]
  exact ht
def nbT (n : Nat) : NB := ⟨n, fun w => 0 < n ∧ TabAt w, fun w w' h k => ⟨k.1, tab_keep k.1 w w' h k.2⟩⟩
def ownItoa : List AV → Heap → R
  | [.int .i64 n], H => if 0 ≤ n ∧ n ≤ 9223372036854775807 then some (.ret (.str (decN n.toNat)), H) else none
  | _, _ => none
def reps (s : List Nat) (c : Nat) : List Nat := (List.replicate c s).flatten
theorem reps_zero (s : List Nat) : reps s 0 = [] := rfl
theorem reps_succ (s : List Nat) (c : Nat) : reps s (c + 1) = s ++ reps s c := by simp [reps, List.replicate_succ]
def ownRepeat : List AV → Heap → R
  | [.str s, .int .i64 c], H => if 0 ≤ c ∧ c ≤ 9223372036854775807 ∧ s.length * c.toNat ≤ 140737488355328 then some (.ret (.str (reps s c.toNat)), H) else none
  | _, _ => none
theorem decDigits_nat (u : Nat) : (Lib.decDigits u).map (·.toNat) = decN u := by
  induction u using Nat.strongRecOn with
  | _ u ih =>
    rw [Lib.decDigits, decN]
    have e : ∀ d, d < 10 → (UInt8.ofNat (48 + d)).toNat = 48 + d := fun d hd => by
      rw [UInt8.toNat_ofNat']; omega
    split
    · rename_i h
      simp only [List.map_cons, List.map_nil, e u h]
    · rename_i h
      rw [List.map_append, ih (u / 10) (by omega)]
      simp only [List.map_cons, List.map_nil, e (u % 10) (by omega)]
theorem repeatL_nat (l : List UInt8) (c : Nat) : (Lib.repeatL l c).map (·.toNat) = reps (l.map (·.toNat)) c := by
  induction c with
  | zero => rfl
  | succ c ih => rw [Lib.repeatL, List.map_append, ih, reps_succ]
theorem post_str {w' : World} {s : List Nat} {l : List UInt8} (r : Rel nb ι H w) (b : RowKit.Below w.heap.size w w') (h : l.map (·.toNat) = s) : CallPost nb ι H w (.ret (.str s), H) (.returned (.string ⟨l.toArray⟩)) w' := by
  obtain ⟨r1, e1⟩ := r.below b
  exact ⟨ι, .str s, rfl, by simp only [VRel]; exact ⟨_, rfl, by unfold bytesRel; simpa using h⟩, r1, e1⟩
theorem grow_below (w : World) (k : Nat) (os : Array Go.Obj) : RowKit.Below w.heap.size w (Sort.grow (w.drewN k) os) :=
  ⟨rfl, rfl, rfl, by simp [Sort.grow, World.drewN], fun b hb => by
    simp only [Sort.grow, World.drewN]
    rw [Array.getElem?_append_left hb]⟩
theorem ownItoa_ok (hT : ∀ w, nb.inv w → TabAt w) : OwnOk Tryz.prog nb 147 ownItoa := by
  intro xs args ι H w out h hxs r
  refine ⟨fun w' => Tryz.call147 args w', ?_⟩
  unfold ownItoa at h
  split at h
  case h_2 => cases h
  rename_i G n
  split at h
  case isFalse => cases h
  rename_i hn
  simp only [Option.some.injEq] at h
  subst h
  simp only [VRels, VRel] at hxs
  obtain ⟨y, ys, hargs, rfl, rfl⟩ := hxs
  obtain rfl : args = #[.int .i64 n] := by
    cases args; simp_all
  refine (Tryz.strconv_Itoa n (by omega) hn.2 w (hT w r.inv)).mono ?_
  rintro e w' ⟨rfl, k, os, rfl⟩
  refine post_str r (grow_below w k os) ?_
  rw [Lib.itoa, if_neg (by omega), decDigits_nat]
theorem ownRepeat_ok : OwnOk Tryz.prog nb 148 ownRepeat := by
  intro xs args ι H w out h hxs r
  refine ⟨fun w' => Tryz.call148 args w', ?_⟩
  unfold ownRepeat at h
  split at h
  case h_2 => cases h
  rename_i G s n
  split at h
  case isFalse => cases h
  rename_i hn
  simp only [Option.some.injEq] at h
  subst h
  simp only [VRels, VRel] at hxs
  obtain ⟨y, ys, hargs, ⟨b, rfl, hb⟩, z, zs, rfl, rfl, rfl⟩ := hxs
  obtain ⟨m, rfl⟩ : ∃ m : Nat, n = m := ⟨n.toNat, by omega⟩
  obtain rfl : args = #[.string b, .int .i64 (m : Int)] := by
    cases args; simp_all
  have hb' : b.data.toList.map (·.toNat) = s := hb
  have hsz : b.size = s.length := by rw [← hb', List.length_map, Array.length_toList]; rfl
  refine (Tryz.strings_Repeat b m w (by omega) (by rw [hsz]; have h9 := hn.2.2; rw [Int.toNat_natCast] at h9; exact h9)).mono ?_
  rintro e w' ⟨rfl, hbel⟩
  refine post_str r hbel ?_
  rw [repeatL_nat, show (b.data.toList.map (·.toNat)) = s from hb]
  simp
end Go.Lite
