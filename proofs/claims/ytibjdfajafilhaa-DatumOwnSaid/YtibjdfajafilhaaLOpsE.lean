/-
  Each operation that leaves the heap alone comes, in the model, to what the interpreter says: the theorem.
-/
import Derived.Test.YtibjdfajafilhaaLOpsD
namespace Go.Lite
open Go
set_option linter.unusedSimpArgs false
set_option linter.unusedVariables false

variable {P : Program} {nb : NB} {ι : Emb} {H : Heap} {w : World} {fr : Fr} {a : Act} {nt : Nat}

/-- It comes to a value, and leaves the heap alone. -/
def Yields1 (P : Program) (nb : NB) (ι : Emb) (w : World) (s : Sem Next) (z : AV) : Prop :=
  ∃ v w', s.run P w = .ok (.value v) w' ∧ Turned w w' w.heap ∧ VRel nb ι z v

theorem Yields1.of {s : Sem Value} {z : AV} {v : Value} (h : s.run P w = .ok v w) (hz : VRel nb ι z v) : Yields1 P nb ι w (do pure (.value (← s))) z :=
  ⟨v, w, by simp [h], rfl, hz⟩

set_option maxHeartbeats 1000000 in
theorem pop_sound (hg : P.globals.size ≤ nb) (hf : FRel nb ι fr a.tmps) (r : Rel nb ι H w) {o : Oper} {q : POp} {z : AV} (hs : slimP P nt o.op = some q) (hz : q.val fr H = some z) :
    Yields1 P nb ι w (execOp a.eval o) z := by
  have X : ∀ {x : Operand} {y : SX}, slimX P nt x = some y → VRel nb ι (y.ev fr) (a.eval x) := fun h => slimX_sound hg hf h
  unfold slimP at hs
  split at hs
  case h_1 x hop =>
    simp only [Option.map_eq_some_iff] at hs
    obtain ⟨y, hy, rfl⟩ := hs
    simp only [POp.val, Option.some.injEq] at hz; subst hz
    exact ⟨a.eval x, w, by simp [execOp, hop], rfl, X hy⟩
  case h_2 x hop =>
    simp only [Option.map_eq_some_iff] at hs
    obtain ⟨y, hy, rfl⟩ := hs
    simp only [POp.val, Option.some.injEq] at hz; subst hz
    exact ⟨a.eval x, w, by simp [execOp, hop], rfl, X hy⟩
  case h_3 c x y hop =>
    simp only [Option.bind_eq_some_iff, Option.map_eq_some_iff] at hs
    obtain ⟨c', hc, x', hx, y', hy, rfl⟩ := hs
    simp only [POp.val, Option.map_eq_some_iff] at hz
    obtain ⟨b, hb, rfl⟩ := hz
    have hcb := (X hc).asBool hb
    refine ⟨if b then a.eval x else a.eval y, w, by simp [execOp, hop, hcb, asBool], rfl, ?_⟩
    cases b
    · exact X hy
    · exact X hx
  case h_4 t parts hop =>
    simp only [Option.bind_eq_some_iff] at hs
    obtain ⟨zs, hzs, hs⟩ := hs
    obtain ⟨i, zv, hi, hzv, hsz, habs⟩ := zeroT_spec hzs
    have hz0 := run_zeroValue (P := P) hi hzv w
    have hcells : VRels nb ι zs zv.cells.toList := absFlats_sound habs
    split at hs
    · rename_i fs hu
      simp only [Option.bind_eq_some_iff, Option.map_eq_some_iff] at hs
      obtain ⟨pl, hpl0, ps, hps, rfl⟩ := hs
      simp only [POp.val, Option.map_eq_some_iff] at hz
      obtain ⟨cs, hcs, rfl⟩ := hz
      obtain ⟨hl, hpl⟩ := partsOf_sound (a := a) hg hf hps
      obtain ⟨out, ho, hor⟩ := fill_sound (place := fun i => pl[i]?) (place' := fun _ => none) (by simpa using hl) hpl hcells hcs
      have hmap : (parts.map fun (x : Nat × Operand) => (x.1, a.eval x.2)).toList = parts.toList.map fun p => (p.1, a.eval p.2) := by simp
      refine ⟨.agg out, w, ?_, rfl, by simp only [VRel]; exact ⟨out, rfl, hor⟩⟩
      have hrp := run_places w fs.toList pl hpl0
      simp [execOp, hop, Instr.build, hz0, run_underlying hu, Array.mapM_eq_mapM_toList, hrp, ho]
    · rename_i n e hu
      simp only [Option.bind_eq_some_iff, Option.map_eq_some_iff] at hs
      obtain ⟨size, hsize, ps, hps, rfl⟩ := hs
      simp only [POp.val, Option.map_eq_some_iff] at hz
      obtain ⟨cs, hcs, rfl⟩ := hz
      obtain ⟨hl, hpl⟩ := partsOf_sound (a := a) hg hf hps
      obtain ⟨out, ho, hor⟩ := fill_sound (place := fun i => some (i * size, size)) (place' := fun _ => none) (by simpa using hl) hpl hcells hcs
      refine ⟨.agg out, w, ?_, rfl, by simp only [VRel]; exact ⟨out, rfl, hor⟩⟩
      simp [execOp, hop, Instr.build, hz0, run_underlying hu, run_sizeOf hsize, ho]
    · cases hs
  case h_5 t x hop =>
    simp only [Option.bind_eq_some_iff, Option.map_eq_some_iff] at hs
    obtain ⟨y, hy, g, hgg, s, hsz, rfl⟩ := hs
    have hagg := run_isAgg (P := P) hgg w
    cases g
    · simp only [cond_false, POp.val, Option.bind_eq_some_iff] at hz
      obtain ⟨q, hq, hz⟩ := hz
      obtain ⟨l, hl, hv⟩ := (X hy).asPtr hq
      obtain ⟨v, hc, hr⟩ := ld1_sound r hl hz
      exact ⟨v, w, by simp [execOp, hop, hv, Instr.loadAt, Instr.sureAddr, loadVar, hagg, hc], rfl, hr⟩
    · simp only [cond_true, POp.val, Option.bind_eq_some_iff, Option.map_eq_some_iff] at hz
      obtain ⟨q, hq, xs, hxs, rfl⟩ := hz
      obtain ⟨l, hl, hv⟩ := (X hy).asPtr hq
      obtain ⟨_, vs, hvl, hrange, hvs⟩ := ldn_sound r hl hxs
      have hld := run_loadCells_list (P := P) w ⟨l.blk, l.off + q.2, none⟩ vs (fun j v hv => by rw [Addr.add_mid]; exact hrange j v hv)
      rw [hvl] at hld
      exact ⟨.agg vs.toArray, w, by simp [execOp, hop, hv, Instr.loadAt, Instr.sureAddr, loadVar, hagg, run_sizeOf hsz, hld], rfl, by simp only [VRel]; exact ⟨_, rfl, by simpa using hvs⟩⟩
  case h_6 x hop =>
    simp only [Option.map_eq_some_iff] at hs
    obtain ⟨y, hy, rfl⟩ := hs
    have hx := X hy
    simp only [POp.val] at hz
    generalize y.ev fr = xv at hx hz
    cases xv <;> simp only [Option.some.injEq, reduceCtorEq] at hz <;> subst hz
    all_goals
      have hx' := hx
      simp only [VRel] at hx'
    case ptr p o =>
      obtain ⟨l, hl, hv⟩ := hx'
      exact ⟨a.eval x, w, by simp [execOp, hop, hv], rfl, hx⟩
    case func f cs =>
      obtain ⟨l, hv, hl⟩ := hx'
      exact ⟨a.eval x, w, by simp [execOp, hop, hv], rfl, hx⟩
    case iface t v =>
      obtain ⟨l, hv, hl⟩ := hx'
      exact ⟨a.eval x, w, by simp [execOp, hop, hv], rfl, hx⟩
  case h_7 op t x y _ hop =>
    simp only [Option.bind_eq_some_iff] at hs
    obtain ⟨x', hx, y', hy, hs⟩ := hs
    have key : ∀ e, q = .bin op e x' y' → (op = .eql ∨ op = .neq → eqT P t = some e) → Yields1 P nb ι w (execOp a.eval o) z := by
      intro e hq ht
      subst hq
      simp only [POp.val] at hz
      obtain ⟨v, hv, hr⟩ := bin_sound (P := P) (w := w) (ox := x) (oy := y) ht (X hx) (X hy) hz
      exact ⟨v, w, by simp only [execOp, hop, Sem.run_bind] at hv ⊢; simp [hv], rfl, hr⟩
    split at hs
    · simp only [Option.map_eq_some_iff] at hs
      obtain ⟨e, he, rfl⟩ := hs
      exact key e rfl fun _ => he
    · simp only [Option.map_eq_some_iff] at hs
      obtain ⟨e, he, rfl⟩ := hs
      exact key e rfl fun _ => he
    · rename_i h1 h2
      simp only [Option.some.injEq] at hs
      exact key .none hs.symm fun h => by rcases h with h | h <;> simp_all
  case h_8 t x hop =>
    simp only [Option.map_eq_some_iff] at hs
    obtain ⟨y, hy, rfl⟩ := hs
    simp only [POp.val, Option.map_eq_some_iff] at hz
    obtain ⟨b, hb, rfl⟩ := hz
    have hv := (X hy).asBool hb
    exact ⟨.bool (!b), w, by simp [execOp, hop, hv, Op.unary], rfl, by simp only [VRel]⟩
  case h_9 t x hop =>
    simp only [Option.map_eq_some_iff] at hs
    obtain ⟨y, hy, rfl⟩ := hs
    have hx := X hy
    simp only [POp.val] at hz
    generalize y.ev fr = xv at hx hz
    cases xv <;> simp only [Option.some.injEq, reduceCtorEq] at hz <;> subst hz
    simp only [VRel] at hx
    exact ⟨_, w, by simp only [execOp, hop, hx, Op.unary, Op.intArith]; rfl, rfl, by simp only [VRel]⟩
  case h_10 src dst x hop =>
    simp only [Option.bind_eq_some_iff] at hs
    obtain ⟨y, hy, hs⟩ := hs
    have hx := X hy
    split at hs
    · rename_i k1 k2 h1 h2
      simp only [Option.some.injEq] at hs; subst hs
      simp only [POp.val] at hz
      generalize y.ev fr = xv at hx hz
      cases xv <;> simp only [Option.some.injEq, reduceCtorEq] at hz <;> subst hz
      simp only [VRel] at hx
      exact ⟨_, w, by simp [execOp, hop, hx, convert, run_underlying h1, run_underlying h2, Conv.intToInt]; rfl, rfl, by simp only [VRel]⟩
    · rename_i h1 h2
      simp only [Option.some.injEq] at hs; subst hs
      simp only [POp.val, Option.map_eq_some_iff] at hz
      obtain ⟨s, hs', rfl⟩ := hz
      obtain ⟨b, hb, hr⟩ := hx.asStr hs'
      exact ⟨.string b, w, by simp [execOp, hop, hb, convert, run_underlying h1, run_underlying h2], rfl, by simp only [VRel]; exact ⟨b, rfl, hr⟩⟩
    · rename_i e h1 h2
      split at hs
      · rename_i h3
        simp only [Option.some.injEq] at hs; subst hs
        simp only [POp.val] at hz
        obtain ⟨v, hv, hr⟩ := bytesStr_sound r h1 h3 h2 hx hz
        exact ⟨v, w, by simp [execOp, hop, hv], rfl, hr⟩
      · cases hs
    · cases hs
  case h_11 t x hop =>
    split at hs
    · cases hs
    · rename_i d hno hu
      simp only [Option.map_eq_some_iff] at hs
      obtain ⟨y, hy, rfl⟩ := hs
      simp only [POp.val, Option.some.injEq] at hz; subst hz
      refine ⟨.iface t (a.eval x), w, ?_, rfl, by simp only [VRel]; exact ⟨_, rfl, X hy⟩⟩
      have hmk : (Instr.makeInterface t (a.eval x)).run P w = .ok (.iface t (a.eval x)) w := by
        unfold Instr.makeInterface
        rw [Sem.run_bind, run_underlying hu]
        cases d <;> first | rfl | exact (hno _ rfl).elim
      simp [execOp, hop, hmk]
    · cases hs
  case h_12 f first caps hop =>
    split at hs
    case isFalse => cases hs
    rename_i hfi
    simp only [Option.map_eq_some_iff] at hs
    obtain ⟨cs, hcs, rfl⟩ := hs
    simp only [POp.val, Option.some.injEq] at hz; subst hz
    have hfe : first = #[] := by simpa using hfi
    subst hfe
    refine ⟨.func (.func f) #[] (caps.map a.eval), w, by simp [execOp, hop, Instr.makeFunc], rfl, ?_⟩
    simp only [VRel]
    exact ⟨_, rfl, by simpa using slimXs_sound (a := a) hg hf hcs⟩
  case h_13 t x lo hi mx hop =>
    simp only [Option.bind_eq_some_iff] at hs
    obtain ⟨x', hx, lo', hlo, hi', hhi, mx', hmx, hs⟩ := hs
    split at hs
    · rename_i e hu
      simp only [Option.bind_eq_some_iff] at hs
      obtain ⟨size, hsize, hs⟩ := hs
      have hmh : (mx' ≠ none → hi' ≠ none) ∧ q = .sliceS size x' lo' hi' mx' := by
        split at hs
        · cases hs
        · rename_i hno
          simp only [Option.some.injEq] at hs
          refine ⟨fun h => ?_, hs.symm⟩
          cases mx' with
          | none => exact absurd rfl h
          | some m => cases hi' with
            | none => exact (hno m rfl rfl).elim
            | some h => simp
      obtain ⟨hmh, rfl⟩ := hmh
      simp only [POp.val, Option.bind_eq_some_iff] at hz
      obtain ⟨l, hl, h, hh, m, hm, hz⟩ := hz
      obtain ⟨v, hv, hr⟩ := sliceOf_sound (P := P) (w := w) hu hsize (X hx) (optNat_sound (a := a) hg hf hlo hl) (optNat_sound (a := a) hg hf hhi hh) (optNat_sound (a := a) hg hf hmx hm)
        (fun h1 h2 => hmh (fun h3 => h1 ((optNat_none hm).1 h3)) ((optNat_none hh).2 h2)) hz
      exact ⟨v, w, by simp [execOp, hop, hv], rfl, hr⟩
    · rename_i hu
      split at hs
      case h_2 => cases hs
      simp only [Option.some.injEq] at hs; subst hs
      have hmx0 : mx = none := (slimXo_none hmx).2 rfl
      subst hmx0
      simp only [POp.val, Option.bind_eq_some_iff] at hz
      obtain ⟨s, hs', l, hl, h, hh, hz⟩ := hz
      split at hz
      case isFalse => cases hz
      rename_i hle
      simp only [Option.some.injEq] at hz; subst hz
      obtain ⟨b, hb, hbs⟩ := (X hx).asStr hs'
      have hbl : b.size = s.length := by rw [Lib.size_eq, ← hbs, List.length_map]
      have hl' : ∃ l0, BRel l0 (lo.map a.eval) ∧ l0.getD 0 = l := by
        cases lo' with
        | none =>
          simp only [bnd, Option.some.injEq] at hl
          refine ⟨none, ?_, by simp [hl]⟩
          rw [(slimXo_none hlo).2 rfl]; rfl
        | some y =>
          simp only [bnd] at hl
          refine ⟨some l, optNat_sound (a := a) hg hf hlo (by simp [optNat, hl]), rfl⟩
      have hh' : ∃ h0, BRel h0 (hi.map a.eval) ∧ h0.getD s.length = h := by
        cases hi' with
        | none =>
          simp only [bnd, Option.some.injEq] at hh
          refine ⟨none, ?_, by simp [hh]⟩
          rw [(slimXo_none hhi).2 rfl]; rfl
        | some y =>
          simp only [bnd] at hh
          refine ⟨some h, optNat_sound (a := a) hg hf hhi (by simp [optNat, hh]), rfl⟩
      obtain ⟨l0, hl0, hl1⟩ := hl'
      obtain ⟨h0, hh0, hh1⟩ := hh'
      have hb3 := run_bounds (P := P) (w := w) (len := s.length) (cap := s.length) hl0 hh0 (m := none) (mx := none) rfl (by simp) false (by rw [hl1, hh1]; exact hle.1) (by rw [hh1]; exact hle.2) (Nat.le_refl _)
      rw [hl1, hh1] at hb3
      refine ⟨.string (b.extract l h), w, ?_, rfl, ?_⟩
      · simp [execOp, hop, hb, Instr.sliceAt, Instr.slice, run_underlying hu, hbl, hb3]
      · simp only [VRel]
        refine ⟨_, rfl, ?_⟩
        unfold bytesRel at hbs ⊢
        rw [Lib.extract_data, List.map_take, List.map_drop, hbs]
    · cases hs
  case h_14 t x f hop =>
    simp only [Option.bind_eq_some_iff] at hs
    obtain ⟨y, hy, hs⟩ := hs
    split at hs
    case h_2 => cases hs
    rename_i fs hu
    simp only [Option.bind_eq_some_iff] at hs
    obtain ⟨fd, hfd, size, hsize, hs⟩ := hs
    split at hs
    · cases hs
    rename_i hne
    simp only [Option.some.injEq] at hs; subst hs
    simp only [POp.val, Option.map_eq_some_iff] at hz
    obtain ⟨q, hq, rfl⟩ := hz
    obtain ⟨l, hl, hv⟩ := (X hy).asPtr hq
    refine ⟨.pointer (some ⟨l.blk, l.off + (q.2 + fd.offset), none⟩), w, ?_, rfl, by simp only [VRel]; exact ⟨l, hl, rfl⟩⟩
    simp [execOp, hop, hv, Instr.fieldAt, run_underlying hu, hfd, Instr.sureAddr, fieldPlace, run_sizeOf hsize, hne, Addr.add_mid, Nat.add_assoc]
  case h_15 t x f hop =>
    simp only [Option.bind_eq_some_iff] at hs
    obtain ⟨y, hy, hs⟩ := hs
    split at hs
    case h_2 => cases hs
    rename_i fs hu
    simp only [Option.bind_eq_some_iff, Option.map_eq_some_iff] at hs
    obtain ⟨fd, hfd, size, hsize, g, hgg, rfl⟩ := hs
    have hagg := run_isAgg (P := P) hgg w
    have hx := X hy
    cases g
    · simp only [cond_false, POp.val] at hz
      generalize y.ev fr = xv at hx hz
      cases xv <;> simp only [reduceCtorEq] at hz
      rename_i cs
      simp only [VRel] at hx
      obtain ⟨us, hv, hus⟩ := hx
      obtain ⟨u, hu1, hu2⟩ := hus.get _ _ hz
      have hu1' : us[fd.offset]? = some u := by simpa using hu1
      exact ⟨u, w, by simp [execOp, hop, hv, Instr.field, run_underlying hu, hfd, asAgg, part, hagg, hu1'], rfl, hu2⟩
    · simp only [cond_true, POp.val] at hz
      generalize y.ev fr = xv at hx hz
      cases xv <;> simp only [Option.some.injEq, reduceCtorEq] at hz
      rename_i cs
      subst hz
      simp only [VRel] at hx
      obtain ⟨us, hv, hus⟩ := hx
      refine ⟨.agg (us.extract fd.offset (fd.offset + size)), w, by simp [execOp, hop, hv, Instr.field, run_underlying hu, hfd, asAgg, part, hagg, run_sizeOf hsize], rfl, ?_⟩
      simp only [VRel]
      refine ⟨_, rfl, ?_⟩
      rw [Array.toList_extract]
      have := (hus.drop fd.offset).take size
      simpa [List.extract, Nat.add_sub_cancel_left] using this
  case h_16 t x i hop =>
    simp only [Option.bind_eq_some_iff] at hs
    obtain ⟨y, hy, j, hj, hs⟩ := hs
    split at hs
    · rename_i e hu
      simp only [Option.map_eq_some_iff] at hs
      obtain ⟨size, hsize, rfl⟩ := hs
      have hx := X hy
      simp only [POp.val, Option.bind_eq_some_iff] at hz
      obtain ⟨k, hk, hz⟩ := hz
      obtain ⟨kd, hi⟩ := (X hj).asNat hk
      generalize y.ev fr = xv at hx hz
      unfold iaddrV at hz
      cases xv <;> simp only [reduceCtorEq] at hz
      case slice p o n c =>
        split at hz
        case isFalse => cases hz
        rename_i hlt
        simp only [Option.some.injEq] at hz; subst hz
        simp only [VRel] at hx
        obtain ⟨l, cap, hl, hv, hn, hc⟩ := hx
        refine ⟨.pointer (some ⟨l.blk, l.off + (o + k * size), none⟩), w, ?_, rfl, by simp only [VRel]; exact ⟨l, hl, rfl⟩⟩
        have hb : (0 : Int) ≤ (k : Int) ∧ (k : Int) < (n : Int) := ⟨by omega, by omega⟩
        simp [execOp, hop, hv, hi, Instr.indexAt, asIntOf, run_underlying hu, hlt, run_sizeOf hsize, Addr.add_mid, Nat.add_assoc]
      case lst es n f cs =>
        split at hz
        case isFalse => cases hz
        rename_i hlt
        obtain ⟨hlt, rfl⟩ := hlt
        simp only [Option.some.injEq] at hz; subst hz
        simp only [VRel] at hx
        obtain ⟨h0, a0, cap, hv, g1, g2, g3, g4⟩ := hx
        obtain ⟨b, o, vs, rfl, k1, c0, k2, k3⟩ := g4 (by omega)
        refine ⟨.pointer (some ⟨b, o + k * es, none⟩), w, ?_, rfl, ?_⟩
        · have hb : (0 : Int) ≤ (k : Int) ∧ (k : Int) < (n : Int) := ⟨by omega, by omega⟩
          simp [execOp, hop, hv, hi, Instr.indexAt, asIntOf, run_underlying hu, hlt, run_sizeOf hsize, Addr.add_mid, Nat.add_assoc]
        · simp only [VRel, locOf]
          refine ⟨⟨b, o + k * es, 0⟩, ⟨(vs.drop (k * es)).take es, (k1.drop _).take _, c0, k2, fun i v hv => ?_⟩, rfl⟩
          have hi : i < es := by
            have := (List.getElem?_eq_some_iff.1 hv).1
            rw [List.length_take] at this
            omega
          rw [List.getElem?_take_of_lt hi, List.getElem?_drop] at hv
          simp only [Nat.add_assoc]
          exact k3 _ v hv
    · rename_i n e hu
      simp only [Option.map_eq_some_iff] at hs
      obtain ⟨size, hsize, rfl⟩ := hs
      simp only [POp.val, Option.bind_eq_some_iff] at hz
      obtain ⟨q, hq, k, hk, hz⟩ := hz
      split at hz
      case isFalse => cases hz
      rename_i hlt
      simp only [Option.some.injEq] at hz; subst hz
      obtain ⟨kd, hi⟩ := (X hj).asNat hk
      obtain ⟨l, hl, hv⟩ := (X hy).asPtr hq
      refine ⟨.pointer (some ⟨l.blk, l.off + (q.2 + k * size), none⟩), w, ?_, rfl, by simp only [VRel]; exact ⟨l, hl, rfl⟩⟩
      simp [execOp, hop, hv, hi, Instr.indexAt, asIntOf, run_underlying hu, hlt, run_sizeOf hsize, Instr.sureAddr, Addr.add_mid, Nat.add_assoc]
    · cases hs
  case h_17 t x i hop =>
    simp only [Option.bind_eq_some_iff] at hs
    obtain ⟨y, hy, j, hj, hs⟩ := hs
    split at hs
    · rename_i hu
      simp only [Option.some.injEq] at hs; subst hs
      simp only [POp.val, Option.bind_eq_some_iff, Option.map_eq_some_iff] at hz
      obtain ⟨s, hs', k, hk, c, hc, rfl⟩ := hz
      obtain ⟨b, hb, hbs⟩ := (X hy).asStr hs'
      obtain ⟨kd, hi⟩ := (X hj).asNat hk
      unfold bytesRel at hbs
      subst hbs
      simp only [List.getElem?_map, Option.map_eq_some_iff] at hc
      obtain ⟨u, hu1, rfl⟩ := hc
      have hbk : b[k]? = some u := by
        have hlt : k < b.size := by rw [Lib.size_eq]; exact (List.getElem?_eq_some_iff.1 hu1).1
        rw [getElem?_pos b k hlt]
        have := (List.getElem?_eq_some_iff.1 hu1).2
        rw [← this]; rfl
      refine ⟨.int .u8 u.toNat, w, ?_, rfl, by simp only [VRel]⟩
      simp [execOp, hop, hb, hi, Instr.index, asIntOf, run_underlying hu, hbk]
    · rename_i n e hu
      simp only [Option.bind_eq_some_iff] at hs
      obtain ⟨size, hsize, g, hgg, hs⟩ := hs
      split at hs
      case isFalse => cases hs
      rename_i h1
      obtain ⟨rfl, rfl⟩ := h1
      simp only [Option.some.injEq] at hs; subst hs
      have hagg := run_isAgg (P := P) hgg w
      have hx := X hy
      simp only [POp.val] at hz
      generalize y.ev fr = xv at hx hz
      cases xv <;> simp only [reduceCtorEq] at hz
      rename_i cs
      simp only [Option.bind_eq_some_iff] at hz
      obtain ⟨k, hk, hz⟩ := hz
      split at hz
      case isFalse => cases hz
      rename_i hlt
      obtain ⟨kd, hi⟩ := (X hj).asNat hk
      simp only [VRel] at hx
      obtain ⟨us, hv, hus⟩ := hx
      obtain ⟨u, hu1, hu2⟩ := hus.get _ _ hz
      have hu1' : us[k]? = some u := by simpa using hu1
      exact ⟨u, w, by simp [execOp, hop, hv, hi, Instr.index, asIntOf, run_underlying hu, hlt, part, hagg, run_sizeOf hsize, hu1'], rfl, hu2⟩
    · cases hs
  case h_18 x i hop =>
    simp only [Option.map_eq_some_iff] at hs
    obtain ⟨y, hy, rfl⟩ := hs
    have hx := X hy
    simp only [POp.val] at hz
    generalize y.ev fr = xv at hx hz
    cases xv <;> simp only [reduceCtorEq] at hz
    rename_i cs
    simp only [VRel] at hx
    obtain ⟨us, hv, hus⟩ := hx
    obtain ⟨u, hu1, hu2⟩ := hus.get _ _ hz
    have hu1' : us[i]? = some u := by simpa using hu1
    exact ⟨u, w, by simp [execOp, hop, hv, Instr.extract, hu1'], rfl, hu2⟩
  case h_19 x xt t ok hop =>
    simp only [Option.bind_eq_some_iff] at hs
    obtain ⟨y, hy, hs⟩ := hs
    have hx := X hy
    split at hs
    · cases hs
    · rename_i d hno hu
      have hd : ∀ m, d ≠ .interface m := fun m h => hno m h
      cases ok
      · simp only [cond_false, Option.some.injEq] at hs; subst hs
        simp only [POp.val] at hz
        generalize y.ev fr = xv at hx hz
        cases xv <;> simp only [reduceCtorEq] at hz
        rename_i u v
        split at hz
        case isFalse => cases hz
        rename_i hut
        subst hut
        simp only [Option.some.injEq] at hz; subst hz
        simp only [VRel] at hx
        obtain ⟨yv, hv, hyv⟩ := hx
        refine ⟨yv, w, ?_, rfl, hyv⟩
        cases d <;> first | exact (hd _ rfl).elim | simp [execOp, hop, hv, Instr.typeAssert, run_underlying hu]
      · simp only [cond_true, Option.bind_eq_some_iff, Option.map_eq_some_iff] at hs
        obtain ⟨i, hi, zv, hzv, za, hza, rfl⟩ := hs
        have hz0 := run_zeroValue (P := P) hi hzv w
        simp only [POp.val] at hz
        generalize y.ev fr = xv at hx hz
        cases xv <;> simp only [Option.some.injEq, reduceCtorEq] at hz
        · rename_i u v
          simp only [VRel] at hx
          obtain ⟨yv, hv, hyv⟩ := hx
          by_cases hut : u = t
          · rw [if_pos hut] at hz
            subst hut; subst hz
            refine ⟨.tuple #[yv, .bool true], w, ?_, rfl, by simp [VRel, VRels, hyv]⟩
            cases d <;> first | exact (hd _ rfl).elim | simp [execOp, hop, hv, Instr.typeAssert, run_underlying hu]
          · rw [if_neg hut] at hz
            subst hz
            refine ⟨.tuple #[zv, .bool false], w, ?_, rfl, by simp [VRel, VRels, absC_sound (nb := nb) (ι := ι) hza]⟩
            cases d <;> first | exact (hd _ rfl).elim | simp [execOp, hop, hv, Instr.typeAssert, run_underlying hu, hut, hz0]
        · subst hz
          simp only [VRel] at hx
          refine ⟨.tuple #[zv, .bool false], w, ?_, rfl, by simp [VRel, VRels, absC_sound (nb := nb) (ι := ι) hza]⟩
          cases d <;> first | exact (hd _ rfl).elim | simp [execOp, hop, hx, Instr.typeAssert, run_underlying hu, hz0]
    · cases hs
  case h_20 args argTypes hop =>
    simp only [Option.bind_eq_some_iff] at hs
    obtain ⟨x, hx0, y, hy, t, ht, hs⟩ := hs
    have hx := X hy
    have hargs : (args.map a.eval)[0]? = some (a.eval x) := by simp [hx0]
    have hrun : ∀ v, (Builtin.len_ argTypes o.type (args.map a.eval)).run P w = .ok v w → (execOp a.eval o).run P w = .ok (.value v) w := by
      intro v hv
      simp [execOp, hop, resolve, invoke, builtin, hv]
    have hrun2 : ∀ v, (Builtin.len_ argTypes o.type (args.map a.eval)).run P w = .ok v w → (execOp a.eval o).run P w = .ok (.value v) w := hrun
    split at hs
    · rename_i hu
      simp only [Option.some.injEq] at hs; subst hs
      simp only [POp.val] at hz
      simp only [Option.map_eq_some_iff] at hz
      obtain ⟨s, hs', rfl⟩ := hz
      obtain ⟨b, hv, hbs⟩ := hx.asStr hs'
      have hbl : b.size = s.length := by rw [Lib.size_eq, ← hbs, List.length_map]
      refine ⟨.int .i64 s.length, w, hrun _ ?_, rfl, by simp only [VRel]⟩
      simp [Builtin.len_, ht, run_underlying hu, goInt, hbl, hx0, hv]
    · rename_i e hu
      simp only [Option.some.injEq] at hs; subst hs
      simp only [POp.val] at hz
      generalize y.ev fr = xv at hx hz
      cases xv <;> simp only [Option.some.injEq, reduceCtorEq] at hz <;> subst hz <;> simp only [VRel] at hx
      case nils => exact ⟨.int .i64 0, w, hrun _ (by simp [Builtin.len_, ht, run_underlying hu, goInt, hx0, hx]), rfl, by simp only [VRel]⟩
      case emp =>
        obtain ⟨q, cap, hv⟩ := hx
        exact ⟨.int .i64 0, w, hrun _ (by simp [Builtin.len_, ht, run_underlying hu, goInt, hx0, hv]), rfl, by simp only [VRel]⟩
      case slice p o n c =>
        obtain ⟨l, cap, _, hv, _⟩ := hx
        exact ⟨.int .i64 n, w, hrun _ (by simp [Builtin.len_, ht, run_underlying hu, goInt, hx0, hv]), rfl, by simp only [VRel]⟩
      case lst es n f cs =>
        obtain ⟨_, a0, cap, hv, _⟩ := hx
        exact ⟨.int .i64 n, w, hrun _ (by simp [Builtin.len_, ht, run_underlying hu, goInt, hx0, hv]), rfl, by simp only [VRel]⟩
    · cases hs
  case h_21 args argTypes hop =>
    split at hs
    case h_2 => cases hs
    rename_i x y hl
    simp only [Option.bind_eq_some_iff, Option.map_eq_some_iff] at hs
    obtain ⟨x', hx, y', hy, rfl⟩ := hs
    have h1 := X hx
    have h2 := X hy
    simp only [POp.val] at hz
    generalize x'.ev fr = xv at h1 hz
    generalize y'.ev fr = yv at h2 hz
    split at hz
    case h_2 => cases hz
    simp only [Option.some.injEq] at hz
    subst hz
    simp only [VRel] at h1 h2
    obtain ⟨args⟩ := args
    change args = _ at hl
    subst hl
    exact ⟨_, w, by unfold execOp; rw [hop]; simp [resolve, invoke, builtin, Builtin.min_, List.foldlM, h1, h2, Builtin.min2]; rfl, rfl, by simp only [VRel]⟩
  case h_22 args argTypes hop =>
    split at hs
    case h_2 => cases hs
    rename_i x y hl
    simp only [Option.bind_eq_some_iff, Option.map_eq_some_iff] at hs
    obtain ⟨x', hx, y', hy, rfl⟩ := hs
    have h1 := X hx
    have h2 := X hy
    simp only [POp.val] at hz
    generalize x'.ev fr = xv at h1 hz
    generalize y'.ev fr = yv at h2 hz
    split at hz
    case h_2 => cases hz
    simp only [Option.some.injEq] at hz
    subst hz
    simp only [VRel] at h1 h2
    obtain ⟨args⟩ := args
    change args = _ at hl
    subst hl
    exact ⟨_, w, by unfold execOp; rw [hop]; simp [resolve, invoke, builtin, Builtin.max_, List.foldlM, h1, h2, Builtin.max2]; rfl, rfl, by simp only [VRel]⟩
  case h_23 => cases hs

end Go.Lite
