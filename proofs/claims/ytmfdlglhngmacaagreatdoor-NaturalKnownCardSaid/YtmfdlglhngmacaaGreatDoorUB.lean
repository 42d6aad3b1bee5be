/-
  Several texts in one: LOpsE, LOpsA, LOpsW, LOpsX, LStep, LDraw, LDrawB, LDrawC.
-/
import Derived.Test.YtmfdlglhngmacaaGreatDoorUA
import Derived.Laws.RangeString
import Derived.Laws.AppendOwn

set_option linter.unusedSimpArgs false
set_option linter.unusedVariables false
set_option linter.defProp false
set_option maxRecDepth 100000

/-
  Each operation that leaves the heap alone comes, in the model, to what the interpreter says: the theorem.
-/
namespace Go.Lite
open Go
variable {P : Program} {nb : NB} {ι : Emb} {H : Heap} {w : World} {fr : Fr} {a : Act} {nt : Nat}
def Yields1 (P : Program) (nb : NB) (ι : Emb) (w : World) (s : Sem Next) (z : AV) : Prop :=
  ∃ v w', s.run P w = .ok (.value v) w' ∧ Turned w w' w.heap ∧ VRel nb ι z v
theorem Yields1.of {s : Sem Value} {z : AV} {v : Value} (h : s.run P w = .ok v w) (hz : VRel nb ι z v) : Yields1 P nb ι w (do pure (.value (← s))) z :=
  ⟨v, w, by simp [h], rfl, hz⟩
set_option maxHeartbeats 1000000 in
theorem pop_sound (hg : P.globals.size ≤ nb) (hf : FRel nb ι fr a.tmps) (r : Rel nb ι H w) {o : Oper} {q : POp} {z : AV} (hs : slimP P nt o.op = some q) (hz : q.val fr H = some z) :
    Yields1 P nb ι w (execOp a.eval o) z := by
  have X : ∀ {x : Operand} {y : SX}, slimX P nt x = some y → VRel nb ι (y.ev fr) (a.eval x) := fun h => slimX_sound hg hf h
  unfold slimP at hs
  split at hs
  case h_1 x hop =>
    simp only [Option.map_eq_some_iff] at hs
    obtain ⟨y, hy, rfl⟩ := hs
    simp only [POp.val, Option.some.injEq] at hz; subst hz
    exact ⟨a.eval x, w, by simp [execOp, hop], rfl, X hy⟩
  case h_2 x hop =>
    simp only [Option.map_eq_some_iff] at hs
    obtain ⟨y, hy, rfl⟩ := hs
    simp only [POp.val, Option.some.injEq] at hz; subst hz
    exact ⟨a.eval x, w, by simp [execOp, hop], rfl, X hy⟩
  case h_3 c x y hop =>
    simp only [Option.bind_eq_some_iff, Option.map_eq_some_iff] at hs
    obtain ⟨c', hc, x', hx, y', hy, rfl⟩ := hs
    simp only [POp.val, Option.map_eq_some_iff] at hz
    obtain ⟨b, hb, rfl⟩ := hz
    have hcb := (X hc).asBool hb
    refine ⟨if b then a.eval x else a.eval y, w, by simp [execOp, hop, hcb, asBool], rfl, ?_⟩
    cases b
    · exact X hy
    · exact X hx
  case h_4 t parts hop =>
    simp only [Option.bind_eq_some_iff] at hs
    obtain ⟨zs, hzs, hs⟩ := hs
    obtain ⟨i, zv, hi, hzv, hsz, habs⟩ := zeroT_spec hzs
    have hz0 := run_zeroValue (P := P) hi hzv w
    have hcells : VRels nb ι zs zv.cells.toList := absFlats_sound habs
    split at hs
    · rename_i fs hu
      simp only [Option.bind_eq_some_iff, Option.map_eq_some_iff] at hs
      obtain ⟨pl, hpl0, ps, hps, rfl⟩ := hs
      simp only [POp.val, Option.map_eq_some_iff] at hz
      obtain ⟨cs, hcs, rfl⟩ := hz
      obtain ⟨hl, hpl⟩ := partsOf_sound (a := a) hg hf hps
      obtain ⟨out, ho, hor⟩ := fill_sound (place := fun i => pl[i]?) (place' := fun _ => none) (by simpa using hl) hpl hcells hcs
      have hmap : (parts.map fun (x : Nat × Operand) => (x.1, a.eval x.2)).toList = parts.toList.map fun p => (p.1, a.eval p.2) := by simp
      refine ⟨.agg out, w, ?_, rfl, by simp only [VRel]; exact ⟨out, rfl, hor⟩⟩
      have hrp := run_places w fs.toList pl hpl0
      simp [execOp, hop, Instr.build, hz0, run_underlying hu, Array.mapM_eq_mapM_toList, hrp, ho]
    · rename_i n e hu
      simp only [Option.bind_eq_some_iff, Option.map_eq_some_iff] at hs
      obtain ⟨size, hsize, ps, hps, rfl⟩ := hs
      simp only [POp.val, Option.map_eq_some_iff] at hz
      obtain ⟨cs, hcs, rfl⟩ := hz
      obtain ⟨hl, hpl⟩ := partsOf_sound (a := a) hg hf hps
      obtain ⟨out, ho, hor⟩ := fill_sound (place := fun i => some (i * size, size)) (place' := fun _ => none) (by simpa using hl) hpl hcells hcs
      refine ⟨.agg out, w, ?_, rfl, by simp only [VRel]; exact ⟨out, rfl, hor⟩⟩
      simp [execOp, hop, Instr.build, hz0, run_underlying hu, run_sizeOf hsize, ho]
    · cases hs
  case h_5 t x hop =>
    simp only [Option.bind_eq_some_iff, Option.map_eq_some_iff] at hs
    obtain ⟨y, hy, g, hgg, s, hsz, rfl⟩ := hs
    have hagg := run_isAgg (P := P) hgg w
    cases g
    · simp only [cond_false, POp.val, Option.bind_eq_some_iff] at hz
      obtain ⟨q, hq, hz⟩ := hz
      obtain ⟨l, hl, hv⟩ := (X hy).asPtr hq
      obtain ⟨v, hc, hr⟩ := ld1_sound r hl hz
      exact ⟨v, w, by simp [execOp, hop, hv, Instr.loadAt, Instr.sureAddr, loadVar, hagg, hc], rfl, hr⟩
    · simp only [cond_true, POp.val, Option.bind_eq_some_iff, Option.map_eq_some_iff] at hz
      obtain ⟨q, hq, xs, hxs, rfl⟩ := hz
      obtain ⟨l, hl, hv⟩ := (X hy).asPtr hq
      obtain ⟨_, vs, hvl, hrange, hvs⟩ := ldn_sound r hl hxs
      have hld := run_loadCells_list (P := P) w ⟨l.blk, l.off + q.2, none⟩ vs (fun j v hv => by rw [Addr.add_mid]; exact hrange j v hv)
      rw [hvl] at hld
      exact ⟨.agg vs.toArray, w, by simp [execOp, hop, hv, Instr.loadAt, Instr.sureAddr, loadVar, hagg, run_sizeOf hsz, hld], rfl, by simp only [VRel]; exact ⟨_, rfl, by simpa using hvs⟩⟩
  case h_6 x hop =>
    simp only [Option.map_eq_some_iff] at hs
    obtain ⟨y, hy, rfl⟩ := hs
    have hx := X hy
    simp only [POp.val] at hz
    generalize y.ev fr = xv at hx hz
    cases xv <;> simp only [Option.some.injEq, reduceCtorEq] at hz <;> subst hz
    all_goals
      have hx' := hx
      simp only [VRel] at hx'
    case ptr p o =>
      obtain ⟨l, hl, hv⟩ := hx'
      exact ⟨a.eval x, w, by simp [execOp, hop, hv], rfl, hx⟩
    case func f cs =>
      obtain ⟨l, hv, hl⟩ := hx'
      exact ⟨a.eval x, w, by simp [execOp, hop, hv], rfl, hx⟩
    case iface t v =>
      obtain ⟨l, hv, hl⟩ := hx'
      exact ⟨a.eval x, w, by simp [execOp, hop, hv], rfl, hx⟩
  case h_7 op t x y _ hop =>
    simp only [Option.bind_eq_some_iff] at hs
    obtain ⟨x', hx, y', hy, hs⟩ := hs
    have key : ∀ e, q = .bin op e x' y' → (op = .eql ∨ op = .neq → eqT P t = some e) → Yields1 P nb ι w (execOp a.eval o) z := by
      intro e hq ht
      subst hq
      simp only [POp.val] at hz
      obtain ⟨v, hv, hr⟩ := bin_sound (P := P) (w := w) (ox := x) (oy := y) ht (X hx) (X hy) hz
      exact ⟨v, w, by simp only [execOp, hop, Sem.run_bind] at hv ⊢; simp [hv], rfl, hr⟩
    split at hs
    · simp only [Option.map_eq_some_iff] at hs
      obtain ⟨e, he, rfl⟩ := hs
      exact key e rfl fun _ => he
    · simp only [Option.map_eq_some_iff] at hs
      obtain ⟨e, he, rfl⟩ := hs
      exact key e rfl fun _ => he
    · rename_i h1 h2
      simp only [Option.some.injEq] at hs
      exact key .none hs.symm fun h => by rcases h with h | h <;> simp_all
  case h_8 t x hop =>
    simp only [Option.map_eq_some_iff] at hs
    obtain ⟨y, hy, rfl⟩ := hs
    simp only [POp.val, Option.map_eq_some_iff] at hz
    obtain ⟨b, hb, rfl⟩ := hz
    have hv := (X hy).asBool hb
    exact ⟨.bool (!b), w, by simp [execOp, hop, hv, Op.unary], rfl, by simp only [VRel]⟩
  case h_9 t x hop =>
    simp only [Option.map_eq_some_iff] at hs
    obtain ⟨y, hy, rfl⟩ := hs
    have hx := X hy
    simp only [POp.val] at hz
    generalize y.ev fr = xv at hx hz
    cases xv <;> simp only [Option.some.injEq, reduceCtorEq] at hz <;> subst hz
    simp only [VRel] at hx
    exact ⟨_, w, by simp only [execOp, hop, hx, Op.unary, Op.intArith]; rfl, rfl, by simp only [VRel]⟩
  case h_10 src dst x hop =>
    simp only [Option.bind_eq_some_iff] at hs
    obtain ⟨y, hy, hs⟩ := hs
    have hx := X hy
    split at hs
    · rename_i k1 k2 h1 h2
      simp only [Option.some.injEq] at hs; subst hs
      simp only [POp.val] at hz
      generalize y.ev fr = xv at hx hz
      cases xv <;> simp only [Option.some.injEq, reduceCtorEq] at hz <;> subst hz
      simp only [VRel] at hx
      exact ⟨_, w, by simp [execOp, hop, hx, convert, run_underlying h1, run_underlying h2, Conv.intToInt]; rfl, rfl, by simp only [VRel]⟩
    · rename_i h1 h2
      simp only [Option.some.injEq] at hs; subst hs
      simp only [POp.val, Option.map_eq_some_iff] at hz
      obtain ⟨s, hs', rfl⟩ := hz
      obtain ⟨b, hb, hr⟩ := hx.asStr hs'
      exact ⟨.string b, w, by simp [execOp, hop, hb, convert, run_underlying h1, run_underlying h2], rfl, by simp only [VRel]; exact ⟨b, rfl, hr⟩⟩
    · rename_i e h1 h2
      split at hs
      · rename_i h3
        simp only [Option.some.injEq] at hs; subst hs
        simp only [POp.val] at hz
        obtain ⟨v, hv, hr⟩ := bytesStr_sound r h1 h3 h2 hx hz
        exact ⟨v, w, by simp [execOp, hop, hv], rfl, hr⟩
      · cases hs
    · cases hs
  case h_11 t x hop =>
    split at hs
    · cases hs
    · rename_i d hno hu
      simp only [Option.map_eq_some_iff] at hs
      obtain ⟨y, hy, rfl⟩ := hs
      simp only [POp.val, Option.some.injEq] at hz; subst hz
      refine ⟨.iface t (a.eval x), w, ?_, rfl, by simp only [VRel]; exact ⟨_, rfl, X hy⟩⟩
      have hmk : (Instr.makeInterface t (a.eval x)).run P w = .ok (.iface t (a.eval x)) w := by
        unfold Instr.makeInterface
        rw [Sem.run_bind, run_underlying hu]
        cases d <;> first | rfl | exact (hno _ rfl).elim
      simp [execOp, hop, hmk]
    · cases hs
  case h_12 f first caps hop =>
    split at hs
    case isFalse => cases hs
    rename_i hfi
    simp only [Option.map_eq_some_iff] at hs
    obtain ⟨cs, hcs, rfl⟩ := hs
    simp only [POp.val, Option.some.injEq] at hz; subst hz
    have hfe : first = #[] := by simpa using hfi
    subst hfe
    refine ⟨.func (.func f) #[] (caps.map a.eval), w, by simp [execOp, hop, Instr.makeFunc], rfl, ?_⟩
    simp only [VRel]
    exact ⟨_, rfl, by simpa using slimXs_sound (a := a) hg hf hcs⟩
  case h_13 t x lo hi mx hop =>
    simp only [Option.bind_eq_some_iff] at hs
    obtain ⟨x', hx, lo', hlo, hi', hhi, mx', hmx, hs⟩ := hs
    split at hs
    · rename_i e hu
      simp only [Option.bind_eq_some_iff] at hs
      obtain ⟨size, hsize, hs⟩ := hs
      have hmh : (mx' ≠ none → hi' ≠ none) ∧ q = .sliceS size x' lo' hi' mx' := by
        split at hs
        · cases hs
        · rename_i hno
          simp only [Option.some.injEq] at hs
          refine ⟨fun h => ?_, hs.symm⟩
          cases mx' with
          | none => exact absurd rfl h
          | some m => cases hi' with
            | none => exact (hno m rfl rfl).elim
            | some h => simp
      obtain ⟨hmh, rfl⟩ := hmh
      simp only [POp.val, Option.bind_eq_some_iff] at hz
      obtain ⟨l, hl, h, hh, m, hm, hz⟩ := hz
      obtain ⟨v, hv, hr⟩ := sliceOf_sound (P := P) (w := w) hu hsize (X hx) (optNat_sound (a := a) hg hf hlo hl) (optNat_sound (a := a) hg hf hhi hh) (optNat_sound (a := a) hg hf hmx hm)
        (fun h1 h2 => hmh (fun h3 => h1 ((optNat_none hm).1 h3)) ((optNat_none hh).2 h2)) hz
      exact ⟨v, w, by simp [execOp, hop, hv], rfl, hr⟩
    · rename_i hu
      split at hs
      case h_2 => cases hs
      simp only [Option.some.injEq] at hs; subst hs
      have hmx0 : mx = none := (slimXo_none hmx).2 rfl
      subst hmx0
      simp only [POp.val, Option.bind_eq_some_iff] at hz
      obtain ⟨s, hs', l, hl, h, hh, hz⟩ := hz
      split at hz
      case isFalse => cases hz
      rename_i hle
      simp only [Option.some.injEq] at hz; subst hz
      obtain ⟨b, hb, hbs⟩ := (X hx).asStr hs'
      have hbl : b.size = s.length := by rw [Lib.size_eq, ← hbs, List.length_map]
      have hl' : ∃ l0, BRel l0 (lo.map a.eval) ∧ l0.getD 0 = l := by
        cases lo' with
        | none =>
          simp only [bnd, Option.some.injEq] at hl
          refine ⟨none, ?_, by simp [hl]⟩
          rw [(slimXo_none hlo).2 rfl]; rfl
        | some y =>
          simp only [bnd] at hl
          refine ⟨some l, optNat_sound (a := a) hg hf hlo (by simp [optNat, hl]), rfl⟩
      have hh' : ∃ h0, BRel h0 (hi.map a.eval) ∧ h0.getD s.length = h := by
        cases hi' with
        | none =>
          simp only [bnd, Option.some.injEq] at hh
          refine ⟨none, ?_, by simp [hh]⟩
          rw [(slimXo_none hhi).2 rfl]; rfl
        | some y =>
          simp only [bnd] at hh
          refine ⟨some h, optNat_sound (a := a) hg hf hhi (by simp [optNat, hh]), rfl⟩
      obtain ⟨l0, hl0, hl1⟩ := hl'
      obtain ⟨h0, hh0, hh1⟩ := hh'
      have hb3 := run_bounds (P := P) (w := w) (len := s.length) (cap := s.length) hl0 hh0 (m := none) (mx := none) rfl (by simp) false (by rw [hl1, hh1]; exact hle.1) (by rw [hh1]; exact hle.2) (Nat.le_refl _)
      rw [hl1, hh1] at hb3
      refine ⟨.string (b.extract l h), w, ?_, rfl, ?_⟩
      · simp [execOp, hop, hb, Instr.sliceAt, Instr.slice, run_underlying hu, hbl, hb3]
      · simp only [VRel]
        refine ⟨_, rfl, ?_⟩
        unfold bytesRel at hbs ⊢
        rw [Lib.extract_data, List.map_take, List.map_drop, hbs]
    · cases hs
  case h_14 t x f hop =>
    simp only [Option.bind_eq_some_iff] at hs
    obtain ⟨y, hy, hs⟩ := hs
    split at hs
    case h_2 => cases hs
    rename_i fs hu
    simp only [Option.bind_eq_some_iff] at hs
    obtain ⟨fd, hfd, size, hsize, hs⟩ := hs
    split at hs
    · cases hs
    rename_i hne
    simp only [Option.some.injEq] at hs; subst hs
    simp only [POp.val, Option.map_eq_some_iff] at hz
    obtain ⟨q, hq, rfl⟩ := hz
    obtain ⟨l, hl, hv⟩ := (X hy).asPtr hq
    refine ⟨.pointer (some ⟨l.blk, l.off + (q.2 + fd.offset), none⟩), w, ?_, rfl, by simp only [VRel]; exact ⟨l, hl, rfl⟩⟩
    simp [execOp, hop, hv, Instr.fieldAt, run_underlying hu, hfd, Instr.sureAddr, fieldPlace, run_sizeOf hsize, hne, Addr.add_mid, Nat.add_assoc]
  case h_15 t x f hop =>
    simp only [Option.bind_eq_some_iff] at hs
    obtain ⟨y, hy, hs⟩ := hs
    split at hs
    case h_2 => cases hs
    rename_i fs hu
    simp only [Option.bind_eq_some_iff, Option.map_eq_some_iff] at hs
    obtain ⟨fd, hfd, size, hsize, g, hgg, rfl⟩ := hs
    have hagg := run_isAgg (P := P) hgg w
    have hx := X hy
    cases g
    · simp only [cond_false, POp.val] at hz
      generalize y.ev fr = xv at hx hz
      cases xv <;> simp only [reduceCtorEq] at hz
      rename_i cs
      simp only [VRel] at hx
      obtain ⟨us, hv, hus⟩ := hx
      obtain ⟨u, hu1, hu2⟩ := hus.get _ _ hz
      have hu1' : us[fd.offset]? = some u := by simpa using hu1
      exact ⟨u, w, by simp [execOp, hop, hv, Instr.field, run_underlying hu, hfd, asAgg, part, hagg, hu1'], rfl, hu2⟩
    · simp only [cond_true, POp.val] at hz
      generalize y.ev fr = xv at hx hz
      cases xv <;> simp only [Option.some.injEq, reduceCtorEq] at hz
      rename_i cs
      subst hz
      simp only [VRel] at hx
      obtain ⟨us, hv, hus⟩ := hx
      refine ⟨.agg (us.extract fd.offset (fd.offset + size)), w, by simp [execOp, hop, hv, Instr.field, run_underlying hu, hfd, asAgg, part, hagg, run_sizeOf hsize], rfl, ?_⟩
      simp only [VRel]
      refine ⟨_, rfl, ?_⟩
      rw [Array.toList_extract]
      have := (hus.drop fd.offset).take size
      simpa [List.extract, Nat.add_sub_cancel_left] using this
  case h_16 t x i hop =>
    simp only [Option.bind_eq_some_iff] at hs
    obtain ⟨y, hy, j, hj, hs⟩ := hs
    split at hs
    · rename_i e hu
      simp only [Option.map_eq_some_iff] at hs
      obtain ⟨size, hsize, rfl⟩ := hs
      have hx := X hy
      simp only [POp.val, Option.bind_eq_some_iff] at hz
      obtain ⟨k, hk, hz⟩ := hz
      obtain ⟨kd, hi⟩ := (X hj).asNat hk
      generalize y.ev fr = xv at hx hz
      unfold iaddrV at hz
      cases xv <;> simp only [reduceCtorEq] at hz
      case slice p o n c =>
        split at hz
        case isFalse => cases hz
        rename_i hlt
        simp only [Option.some.injEq] at hz; subst hz
        simp only [VRel] at hx
        obtain ⟨l, cap, hl, hv, hn, hc⟩ := hx
        refine ⟨.pointer (some ⟨l.blk, l.off + (o + k * size), none⟩), w, ?_, rfl, by simp only [VRel]; exact ⟨l, hl, rfl⟩⟩
        have hb : (0 : Int) ≤ (k : Int) ∧ (k : Int) < (n : Int) := ⟨by omega, by omega⟩
        simp [execOp, hop, hv, hi, Instr.indexAt, asIntOf, run_underlying hu, hlt, run_sizeOf hsize, Addr.add_mid, Nat.add_assoc]
      case lst es n f cs =>
        split at hz
        case isFalse => cases hz
        rename_i hlt
        obtain ⟨hlt, rfl⟩ := hlt
        simp only [Option.some.injEq] at hz; subst hz
        simp only [VRel] at hx
        obtain ⟨h0, a0, cap, hv, g1, g2, g3, g4⟩ := hx
        obtain ⟨b, o, vs, rfl, k1, c0, k2, k3⟩ := g4 (by omega)
        refine ⟨.pointer (some ⟨b, o + k * es, none⟩), w, ?_, rfl, ?_⟩
        · have hb : (0 : Int) ≤ (k : Int) ∧ (k : Int) < (n : Int) := ⟨by omega, by omega⟩
          simp [execOp, hop, hv, hi, Instr.indexAt, asIntOf, run_underlying hu, hlt, run_sizeOf hsize, Addr.add_mid, Nat.add_assoc]
        · simp only [VRel, locOf]
          refine ⟨⟨b, o + k * es, 0⟩, ⟨(vs.drop (k * es)).take es, (k1.drop _).take _, c0, k2, fun i v hv => ?_⟩, rfl⟩
          have hi : i < es := by
            have := (List.getElem?_eq_some_iff.1 hv).1
            rw [List.length_take] at this
            omega
          rw [List.getElem?_take_of_lt hi, List.getElem?_drop] at hv
          simp only [Nat.add_assoc]
          exact k3 _ v hv
    · rename_i n e hu
      simp only [Option.map_eq_some_iff] at hs
      obtain ⟨size, hsize, rfl⟩ := hs
      simp only [POp.val, Option.bind_eq_some_iff] at hz
      obtain ⟨q, hq, k, hk, hz⟩ := hz
      split at hz
      case isFalse => cases hz
      rename_i hlt
      simp only [Option.some.injEq] at hz; subst hz
      obtain ⟨kd, hi⟩ := (X hj).asNat hk
      obtain ⟨l, hl, hv⟩ := (X hy).asPtr hq
      refine ⟨.pointer (some ⟨l.blk, l.off + (q.2 + k * size), none⟩), w, ?_, rfl, by simp only [VRel]; exact ⟨l, hl, rfl⟩⟩
      simp [execOp, hop, hv, hi, Instr.indexAt, asIntOf, run_underlying hu, hlt, run_sizeOf hsize, Instr.sureAddr, Addr.add_mid, Nat.add_assoc]
    · cases hs
  case h_17 t x i hop =>
    simp only [Option.bind_eq_some_iff] at hs
    obtain ⟨y, hy, j, hj, hs⟩ := hs
    split at hs
    · rename_i hu
      simp only [Option.some.injEq] at hs; subst hs
      simp only [POp.val, Option.bind_eq_some_iff, Option.map_eq_some_iff] at hz
      obtain ⟨s, hs', k, hk, c, hc, rfl⟩ := hz
      obtain ⟨b, hb, hbs⟩ := (X hy).asStr hs'
      obtain ⟨kd, hi⟩ := (X hj).asNat hk
      unfold bytesRel at hbs
      subst hbs
      simp only [List.getElem?_map, Option.map_eq_some_iff] at hc
      obtain ⟨u, hu1, rfl⟩ := hc
      have hbk : b[k]? = some u := by
        have hlt : k < b.size := by rw [Lib.size_eq]; exact (List.getElem?_eq_some_iff.1 hu1).1
        rw [getElem?_pos b k hlt]
        have := (List.getElem?_eq_some_iff.1 hu1).2
        rw [← this]; rfl
      refine ⟨.int .u8 u.toNat, w, ?_, rfl, by simp only [VRel]⟩
      simp [execOp, hop, hb, hi, Instr.index, asIntOf, run_underlying hu, hbk]
    · rename_i n e hu
      simp only [Option.bind_eq_some_iff] at hs
      obtain ⟨size, hsize, g, hgg, hs⟩ := hs
      split at hs
      case isFalse => cases hs
      rename_i h1
      obtain ⟨rfl, rfl⟩ := h1
      simp only [Option.some.injEq] at hs; subst hs
      have hagg := run_isAgg (P := P) hgg w
      have hx := X hy
      simp only [POp.val] at hz
      generalize y.ev fr = xv at hx hz
      cases xv <;> simp only [reduceCtorEq] at hz
      rename_i cs
      simp only [Option.bind_eq_some_iff] at hz
      obtain ⟨k, hk, hz⟩ := hz
      split at hz
      case isFalse => cases hz
      rename_i hlt
      obtain ⟨kd, hi⟩ := (X hj).asNat hk
      simp only [VRel] at hx
      obtain ⟨us, hv, hus⟩ := hx
      obtain ⟨u, hu1, hu2⟩ := hus.get _ _ hz
      have hu1' : us[k]? = some u := by simpa using hu1
      exact ⟨u, w, by simp [execOp, hop, hv, hi, Instr.index, asIntOf, run_underlying hu, hlt, part, hagg, run_sizeOf hsize, hu1'], rfl, hu2⟩
    · cases hs
  case h_18 x i hop =>
    simp only [Option.map_eq_some_iff] at hs
    obtain ⟨y, hy, rfl⟩ := hs
    have hx := X hy
    simp only [POp.val] at hz
    generalize y.ev fr = xv at hx hz
    cases xv <;> simp only [reduceCtorEq] at hz
    rename_i cs
    simp only [VRel] at hx
    obtain ⟨us, hv, hus⟩ := hx
    obtain ⟨u, hu1, hu2⟩ := hus.get _ _ hz
    have hu1' : us[i]? = some u := by simpa using hu1
    exact ⟨u, w, by simp [execOp, hop, hv, Instr.extract, hu1'], rfl, hu2⟩
  case h_19 x xt t ok hop =>
    simp only [Option.bind_eq_some_iff] at hs
    obtain ⟨y, hy, hs⟩ := hs
    have hx := X hy
    split at hs
    · cases hs
    · rename_i d hno hu
      have hd : ∀ m, d ≠ .interface m := fun m h => hno m h
      cases ok
      · simp only [cond_false, Option.some.injEq] at hs; subst hs
        simp only [POp.val] at hz
        generalize y.ev fr = xv at hx hz
        cases xv <;> simp only [reduceCtorEq] at hz
        rename_i u v
        split at hz
        case isFalse => cases hz
        rename_i hut
        subst hut
        simp only [Option.some.injEq] at hz; subst hz
        simp only [VRel] at hx
        obtain ⟨yv, hv, hyv⟩ := hx
        refine ⟨yv, w, ?_, rfl, hyv⟩
        cases d <;> first | exact (hd _ rfl).elim | simp [execOp, hop, hv, Instr.typeAssert, run_underlying hu]
      · simp only [cond_true, Option.bind_eq_some_iff, Option.map_eq_some_iff] at hs
        obtain ⟨i, hi, zv, hzv, za, hza, rfl⟩ := hs
        have hz0 := run_zeroValue (P := P) hi hzv w
        simp only [POp.val] at hz
        generalize y.ev fr = xv at hx hz
        cases xv <;> simp only [Option.some.injEq, reduceCtorEq] at hz
        · rename_i u v
          simp only [VRel] at hx
          obtain ⟨yv, hv, hyv⟩ := hx
          by_cases hut : u = t
          · rw [if_pos hut] at hz
            subst hut; subst hz
            refine ⟨.tuple #[yv, .bool true], w, ?_, rfl, by simp [VRel, VRels, hyv]⟩
            cases d <;> first | exact (hd _ rfl).elim | simp [execOp, hop, hv, Instr.typeAssert, run_underlying hu]
          · rw [if_neg hut] at hz
            subst hz
            refine ⟨.tuple #[zv, .bool false], w, ?_, rfl, by simp [VRel, VRels, absC_sound (nb := nb) (ι := ι) hza]⟩
            cases d <;> first | exact (hd _ rfl).elim | simp [execOp, hop, hv, Instr.typeAssert, run_underlying hu, hut, hz0]
        · subst hz
          simp only [VRel] at hx
          refine ⟨.tuple #[zv, .bool false], w, ?_, rfl, by simp [VRel, VRels, absC_sound (nb := nb) (ι := ι) hza]⟩
          cases d <;> first | exact (hd _ rfl).elim | simp [execOp, hop, hx, Instr.typeAssert, run_underlying hu, hz0]
    · cases hs
  case h_20 args argTypes hop =>
    simp only [Option.bind_eq_some_iff] at hs
    obtain ⟨x, hx0, y, hy, t, ht, hs⟩ := hs
    have hx := X hy
    have hargs : (args.map a.eval)[0]? = some (a.eval x) := by simp [hx0]
    have hrun : ∀ v, (Builtin.len_ argTypes o.type (args.map a.eval)).run P w = .ok v w → (execOp a.eval o).run P w = .ok (.value v) w := by
      intro v hv
      simp [execOp, hop, resolve, invoke, builtin, hv]
    have hrun2 : ∀ v, (Builtin.len_ argTypes o.type (args.map a.eval)).run P w = .ok v w → (execOp a.eval o).run P w = .ok (.value v) w := hrun
    split at hs
    · rename_i hu
      simp only [Option.some.injEq] at hs; subst hs
      simp only [POp.val] at hz
      simp only [Option.map_eq_some_iff] at hz
      obtain ⟨s, hs', rfl⟩ := hz
      obtain ⟨b, hv, hbs⟩ := hx.asStr hs'
      have hbl : b.size = s.length := by rw [Lib.size_eq, ← hbs, List.length_map]
      refine ⟨.int .i64 s.length, w, hrun _ ?_, rfl, by simp only [VRel]⟩
      simp [Builtin.len_, ht, run_underlying hu, goInt, hbl, hx0, hv]
    · rename_i e hu
      simp only [Option.some.injEq] at hs; subst hs
      simp only [POp.val] at hz
      generalize y.ev fr = xv at hx hz
      cases xv <;> simp only [Option.some.injEq, reduceCtorEq] at hz <;> subst hz <;> simp only [VRel] at hx
      case nils => exact ⟨.int .i64 0, w, hrun _ (by simp [Builtin.len_, ht, run_underlying hu, goInt, hx0, hx]), rfl, by simp only [VRel]⟩
      case emp =>
        obtain ⟨q, cap, hv⟩ := hx
        exact ⟨.int .i64 0, w, hrun _ (by simp [Builtin.len_, ht, run_underlying hu, goInt, hx0, hv]), rfl, by simp only [VRel]⟩
      case slice p o n c =>
        obtain ⟨l, cap, _, hv, _⟩ := hx
        exact ⟨.int .i64 n, w, hrun _ (by simp [Builtin.len_, ht, run_underlying hu, goInt, hx0, hv]), rfl, by simp only [VRel]⟩
      case lst es n f cs =>
        obtain ⟨_, a0, cap, hv, _⟩ := hx
        exact ⟨.int .i64 n, w, hrun _ (by simp [Builtin.len_, ht, run_underlying hu, goInt, hx0, hv]), rfl, by simp only [VRel]⟩
    · cases hs
  case h_21 args argTypes hop =>
    split at hs
    case h_2 => cases hs
    rename_i x y hl
    simp only [Option.bind_eq_some_iff, Option.map_eq_some_iff] at hs
    obtain ⟨x', hx, y', hy, rfl⟩ := hs
    have h1 := X hx
    have h2 := X hy
    simp only [POp.val] at hz
    generalize x'.ev fr = xv at h1 hz
    generalize y'.ev fr = yv at h2 hz
    split at hz
    case h_2 => cases hz
    simp only [Option.some.injEq] at hz
    subst hz
    simp only [VRel] at h1 h2
    obtain ⟨args⟩ := args
    change args = _ at hl
    subst hl
    exact ⟨_, w, by unfold execOp; rw [hop]; simp [resolve, invoke, builtin, Builtin.min_, List.foldlM, h1, h2, Builtin.min2]; rfl, rfl, by simp only [VRel]⟩
  case h_22 args argTypes hop =>
    split at hs
    case h_2 => cases hs
    rename_i x y hl
    simp only [Option.bind_eq_some_iff, Option.map_eq_some_iff] at hs
    obtain ⟨x', hx, y', hy, rfl⟩ := hs
    have h1 := X hx
    have h2 := X hy
    simp only [POp.val] at hz
    generalize x'.ev fr = xv at h1 hz
    generalize y'.ev fr = yv at h2 hz
    split at hz
    case h_2 => cases hz
    simp only [Option.some.injEq] at hz
    subst hz
    simp only [VRel] at h1 h2
    obtain ⟨args⟩ := args
    change args = _ at hl
    subst hl
    exact ⟨_, w, by unfold execOp; rw [hop]; simp [resolve, invoke, builtin, Builtin.max_, List.foldlM, h1, h2, Builtin.max2]; rfl, rfl, by simp only [VRel]⟩
  case h_23 => cases hs
end Go.Lite

/-
  Each operation that makes a block comes, in the model, to what the interpreter says.
-/
namespace Go.Lite
open Go
variable {P : Program} {nb : NB} {ι : Emb} {H : Heap} {w : World} {fr : Fr} {a : Act} {nt : Nat}
def Born (nb : NB) (ι : Emb) (l : Loc) : Lite.Obj → Go.Obj → Prop
  | .row cs es fz ty, ob => ∃ cells elem fro, ob = .cells cells elem fro ∧ (∀ (i : Nat) (x : AV), cs[i]? = some x → ∃ v, cells[l.off + i]? = some v ∧ VRel nb ι x v) ∧
      (fz = false → ∀ i, i < cells.size → ¬ (fro.1 ≤ i ∧ i < fro.2)) ∧ (es ≠ 0 → l.off + l.lim ≤ cells.size) ∧ (∀ t, ty = some t → l.off = 0 ∧ t = elem ∧ (es = 0 → cells.size = cs.length))
  | .iter s pos, ob => l.off = 0 ∧ ∃ b, bytesRel s b ∧ ob = .stringIter b pos
def Emb.put (ι : Emb) (k : Nat) (l : Loc) : Emb := ⟨fun j => if j = k then some l else ι j, ι.fz⟩
theorem Emb.put_at {ι : Emb} {k j : Nat} {l : Loc} : (ι.put k l) j = if j = k then some l else ι j := rfl
theorem Emb.le_put {ι : Emb} {k : Nat} {l : Loc} (h : ι k = none) : ι.le (ι.put k l) := ⟨fun j q e => by
  rw [Emb.put_at]
  by_cases hj : j = k
  · subst hj; rw [h] at e; cases e
  · rw [if_neg hj]; exact e, fun _ _ h => h⟩
theorem Emb.put_same {ι : Emb} {k : Nat} {l : Loc} : ι.put k l k = some l := by simp [Emb.put]
theorem heap_push_lt {w w' : World} {ob : Go.Obj} (h : w'.heap = w.heap.push ob) {b : Nat} (hb : b < w.heap.size) : w'.heap[b]? = w.heap[b]? := by
  rw [h, Array.getElem?_push]
  simp [Nat.ne_of_lt hb]
theorem heap_push_new {w w' : World} {ob : Go.Obj} (h : w'.heap = w.heap.push ob) : w'.heap[w.heap.size]? = some ob := by
  rw [h]; simp
theorem cell_lt {w : World} {b i : Nat} {v : Value} (h : w.cell? ⟨b, i, none⟩ = some v) : b < w.heap.size := by
  unfold World.cell? at h
  split at h
  · rename_i hb
    exact (Array.getElem?_eq_some_iff.1 hb).1
  · cases h
theorem Rel.born {w' : World} {k : Nat} {o : Lite.Obj} {ob : Go.Obj} {l : Loc} (r : Rel nb ι H w) (hk : ι k = none) (ho : H.t.get k = some o) (hh : w'.heap = w.heap.push ob) (hl : l.blk = w.heap.size)
    (hb : Born nb ι l o ob) : Rel nb (ι.put k l) H w' := by
  have hle : ι.le (ι.put k l) := Emb.le_put hk
  have hcell : ∀ b i v, w.cell? ⟨b, i, none⟩ = some v → w'.cell? ⟨b, i, none⟩ = some v := fun b i v h => by
    rw [← h]; exact cell?_of_heap (heap_push_lt hh (cell_lt h)) i
  have hnew := heap_push_new hh
  refine ⟨?_, ?_, ?_, ?_, ?_, ?_, r.lt, ?_, nb.keep w w' (fun b hb => by rw [hh, Array.getElem?_push, if_neg (by have := r.nbw; omega)]) r.inv⟩
  · rw [hh]; have := r.nbw; simp; omega
  · intro b cs hb'
    refine ⟨(r.old b cs hb').1, fun i x hx => ?_⟩
    obtain ⟨v, hv, hr⟩ := (r.old b cs hb').2 i x hx
    exact ⟨v, hcell _ _ _ hv, hr⟩
  · intro j q cs es fz ty hj hoj
    simp only [Emb.put_at] at hj
    by_cases hjk : j = k
    · subst hjk
      rw [if_pos rfl] at hj
      simp only [Option.some.injEq] at hj
      subst hj
      rw [ho] at hoj
      simp only [Option.some.injEq] at hoj
      subst hoj
      obtain ⟨cells, elem, fro, rfl, h1, h2, h3, h4⟩ := hb
      have hc : ∀ i, w'.cell? ⟨l.blk, i, none⟩ = cells[i]? := fun i => by rw [hl]; unfold World.cell?; rw [hnew]; simp
      refine ⟨fun i x hx => ?_, fun hf i v hv => ?_, fun he i hi => ?_, fun t ht => ?_⟩
      · obtain ⟨v, hv, hr⟩ := h1 i x hx
        exact ⟨v, by rw [hc]; exact hv, hr.mono hle⟩
      · rw [hc] at hv
        have hlt := (Array.getElem?_eq_some_iff.1 hv).1
        have := h2 hf i hlt
        unfold World.frozen?
        rw [hl, hnew]
        simp only [Bool.and_eq_false_iff, decide_eq_false_iff_not]
        rcases Nat.lt_or_ge i fro.1 with h | h
        · left; omega
        · right; omega
      · have := h3 he
        exact ⟨cells[l.off + i]'(by omega), by rw [hc]; exact Array.getElem?_eq_getElem _⟩
      · obtain ⟨g0, rfl, g2⟩ := h4 t ht
        exact ⟨g0, cells.size, by rw [hl]; unfold World.shape?; rw [hnew], g2⟩
    · rw [if_neg hjk] at hj
      obtain ⟨h1, h2, h3, h4⟩ := r.row j q cs es fz ty hj hoj
      have hblk := (r.dom j q hj).2.1
      refine ⟨fun i x hx => ?_, fun hf i v hv => ?_, fun he i hi => ?_, h4.of_heap (heap_push_lt hh hblk)⟩
      · obtain ⟨v, hv, hr⟩ := h1 i x hx
        exact ⟨v, hcell _ _ _ hv, hr.mono hle⟩
      · rw [cell?_of_heap (heap_push_lt hh hblk)] at hv
        rw [frozen?_of_heap (heap_push_lt hh hblk)]
        exact h2 hf i v hv
      · obtain ⟨v, hv⟩ := h3 he i hi
        exact ⟨v, hcell _ _ _ hv⟩
  · intro j q s pos hj hoj
    simp only [Emb.put_at] at hj
    by_cases hjk : j = k
    · subst hjk
      rw [if_pos rfl] at hj
      simp only [Option.some.injEq] at hj
      subst hj
      rw [ho] at hoj
      simp only [Option.some.injEq] at hoj
      subst hoj
      obtain ⟨h0, b, hb1, rfl⟩ := hb
      exact ⟨h0, b, hb1, by rw [hl]; exact hnew⟩
    · rw [if_neg hjk] at hj
      obtain ⟨h0, b, hb1, hb2⟩ := r.iter j q s pos hj hoj
      exact ⟨h0, b, hb1, by rw [heap_push_lt hh (r.dom j q hj).2.1]; exact hb2⟩
  · intro j q hj
    simp only [Emb.put_at] at hj
    rw [hh]
    by_cases hjk : j = k
    · subst hjk
      rw [if_pos rfl] at hj
      simp only [Option.some.injEq] at hj
      subst hj
      refine ⟨by rw [hl]; exact r.nbw, by rw [hl]; simp, r.lt _ _ ho⟩
    · rw [if_neg hjk] at hj
      have := r.dom j q hj
      refine ⟨this.1, by simp; omega, this.2.2⟩
  · intro j j' q q' o1 o2 hj hj' ho1 ho2 hb'
    simp only [Emb.put_at] at hj hj'
    by_cases h1 : j = k <;> by_cases h2 : j' = k
    · rw [h1, h2]
    · rw [if_pos h1] at hj
      rw [if_neg h2] at hj'
      simp only [Option.some.injEq] at hj
      subst hj
      have := (r.dom j' q' hj').2.1
      omega
    · rw [if_neg h1] at hj
      rw [if_pos h2] at hj'
      simp only [Option.some.injEq] at hj'
      subst hj'
      have := (r.dom j q hj).2.1
      omega
    · rw [if_neg h1] at hj
      rw [if_neg h2] at hj'
      exact r.inj j j' q q' o1 o2 hj hj' ho1 ho2 hb'
  · intro b c hc
    obtain ⟨g1, g2, g3⟩ := r.fz b c hc
    refine ⟨by rw [hh]; simp; omega, fun i => by rw [cell?_of_heap (heap_push_lt hh g1)]; exact g2 i, fun j q oj hj hoj hb' => ?_⟩
    simp only [Emb.put_at] at hj
    by_cases hjk : j = k
    · rw [if_pos hjk] at hj
      simp only [Option.some.injEq] at hj
      subst hj
      omega
    · rw [if_neg hjk] at hj
      exact g3 j q oj hj hoj hb'
theorem Ext.born {w' : World} {k : Nat} {ob : Go.Obj} {l : Loc} (r : Rel nb ι H w) (hk : ι k = none) (ht : Turned w w' (w.heap.push ob)) (hl : l.blk = w.heap.size) (hkn : H.n ≤ k) {H' : Heap} (hn : H.n ≤ H'.n)
    (hun : ∀ j, j < H.n → H'.t.get j = H.t.get j) (hbase : H'.base = H.base) : Ext nb ι H w (ι.put k l) H' w' where
  le := Emb.le_put hk
  size := by rw [ht.heap]; simp
  kept b hb _ := heap_push_lt ht.heap hb
  rng j q hj hq := by
    simp only [Emb.put_at] at hj
    by_cases hjk : j = k
    · rw [if_pos hjk] at hj
      simp only [Option.some.injEq] at hj
      subst hj
      omega
    · rw [if_neg hjk] at hj
      exact ⟨j, q, hj, rfl⟩
  fresh j q hj := by
    simp only [Emb.put_at] at hj
    by_cases hjk : j = k
    · right; omega
    · rw [if_neg hjk] at hj; exact .inl hj
  n := hn
  unborn j hj _ := hun j hj
  base := hbase
  env := ht.env
  frz _ _ h := .inl h
theorem Rel.push (r : Rel nb ι H w) (o : Lite.Obj) : Rel nb ι (H.push o) w where
  nbw := r.nbw
  inv := r.inv
  old := r.old
  row k l cs es fz ty hk ho := by
    have := (r.dom k l hk).2.2
    simp only [Heap.push, T.get_set] at ho
    rw [if_neg (by omega)] at ho
    exact r.row k l cs es fz ty hk ho
  iter k l s pos hk ho := by
    have := (r.dom k l hk).2.2
    simp only [Heap.push, T.get_set] at ho
    rw [if_neg (by omega)] at ho
    exact r.iter k l s pos hk ho
  dom k l hk := by
    have := r.dom k l hk
    simp only [Heap.push]
    omega
  inj k k' l l' o1 o2 hk hk' h1 h2 hb := by
    have e1 := (r.dom k l hk).2.2
    have e2 := (r.dom k' l' hk').2.2
    simp only [Heap.push, T.get_set] at h1 h2
    rw [if_neg (by omega)] at h1 h2
    exact r.inj k k' l l' o1 o2 hk hk' h1 h2 hb
  lt k o1 h := by
    simp only [Heap.push, T.get_set] at h ⊢
    split at h
    · omega
    · have := r.lt k o1 h; omega
  fz b c hc := by
    obtain ⟨g1, g2, g3⟩ := r.fz b c hc
    refine ⟨g1, g2, fun k l o1 hk ho hb => ?_⟩
    have := (r.dom k l hk).2.2
    simp only [Heap.push, T.get_set] at ho
    rw [if_neg (by omega)] at ho
    exact g3 k l o1 hk ho hb
/-! ### The operations -/
theorem fillAt_len : ∀ {ps : List (Nat × Nat × AV)} {cs ds : List AV}, fillAt cs ps = some ds → ds.length = cs.length
  | [], cs, ds, h => by simp only [fillAt, Option.some.injEq] at h; rw [h]
  | (o, s, v) :: ps, cs, ds, h => by
    simp only [fillAt, Option.bind_eq_some_iff] at h
    obtain ⟨vs, hvs, h⟩ := h
    split at h
    case isFalse => cases h
    rename_i hc
    rw [fillAt_len h]
    unfold putAt
    simp only [List.length_append, List.length_take, List.length_drop]
    omega
theorem rep_get (zs : List AV) : ∀ (n i : Nat) (x : AV), (rep zs n)[i]? = some x → i < n * zs.length ∧ zs[i % zs.length]? = some x
  | 0, i, x, h => by simp [rep] at h
  | n + 1, i, x, h => by
    simp only [rep] at h
    by_cases hi : i < zs.length
    · rw [List.getElem?_append_left hi] at h
      refine ⟨by rw [Nat.add_mul]; omega, by rw [Nat.mod_eq_of_lt hi]; exact h⟩
    · rw [List.getElem?_append_right (by omega)] at h
      obtain ⟨h1, h2⟩ := rep_get zs n _ x h
      refine ⟨by rw [Nat.add_mul]; omega, ?_⟩
      rw [Nat.mod_eq_sub_mod (by omega)]
      exact h2
theorem zeros_rel {zs : List AV} {z : Array Value} (hz : VRels nb ι zs z.toList) (n : Nat) : ∀ (i : Nat) (x : AV), (rep zs n)[i]? = some x → ∃ v, ((Array.range (n * z.size)).map fun j => z[j % z.size]!)[i]? = some v ∧ VRel nb ι x v := by
  intro i x hx
  have hl : z.size = zs.length := by simpa using hz.length
  obtain ⟨h1, h2⟩ := rep_get zs n i x hx
  obtain ⟨v, hv, hr⟩ := hz.get _ _ h2
  refine ⟨v, ?_, hr⟩
  rw [← hl] at h1 hv
  have hlt : i % z.size < z.size := (Array.getElem?_eq_some_iff.1 (by simpa using hv)).1
  simp only [Array.getElem?_map, Array.getElem?_range]
  rw [if_pos h1]
  simp only [Option.map_some, Option.some.injEq]
  rw [getElem!_pos z _ hlt]
  have := (Array.getElem?_eq_some_iff.1 (show z[i % z.size]? = some v by simpa using hv)).2
  exact this
def Emb.add (ι : Emb) (k : Nat) (l : Loc) (o : Lite.Obj) (w' : World) : Emb :=
  match o with
  | .row _ _ true _ => (ι.put k l).freeze w' l.blk
  | _ => ι.put k l
theorem Emb.add_at {ι : Emb} {k j : Nat} {l : Loc} {o : Lite.Obj} {w' : World} : (ι.add k l o w') j = if j = k then some l else ι j := by
  unfold Emb.add
  split <;> rfl
theorem Emb.le_add {ι : Emb} {k : Nat} {l : Loc} {o : Lite.Obj} {w' : World} (h : ι k = none) : ι.le (ι.add k l o w') := by
  unfold Emb.add
  split
  · exact Emb.le_trans (Emb.le_put h) Emb.le_freeze
  · exact Emb.le_put h
theorem Emb.add_same {ι : Emb} {k : Nat} {l : Loc} {o : Lite.Obj} {w' : World} : (ι.add k l o w') k = some l := by rw [Emb.add_at, if_pos rfl]
theorem Rel.added {k : Nat} {o : Lite.Obj} {l : Loc} {w' : World} (r : Rel nb (ι.put k l) H w') (ho : H.t.get k = some o) :
    Rel nb (ι.add k l o w') H w' ∧ Ext nb (ι.put k l) H w' (ι.add k l o w') H w' ∧ ∀ cs es ty, o = .row cs es true ty → (ι.add k l o w').fz l.blk = some (cellsAt w' l.blk) := by
  unfold Emb.add
  split
  · rename_i cs es ty
    obtain ⟨h1, h2, h3⟩ := r.settleH (H' := H) (k := k) Emb.put_same ho (fun j => by
      by_cases e : j = k
      · rw [if_pos e, e]; exact ho
      · rw [if_neg e]) rfl rfl
    exact ⟨h1, h2, fun _ _ _ _ => h3⟩
  · rename_i hno
    exact ⟨r, Ext.refl, fun cs es ty e => (hno cs es ty e).elim⟩
def Makes1 (P : Program) (nb : NB) (ι : Emb) (w : World) (s : Sem Next) (k : Nat) (o : Lite.Obj) (z : AV) : Prop :=
  ∃ v w' ob l, s.run P w = .ok (.value v) w' ∧ Turned w w' (w.heap.push ob) ∧ l.blk = w.heap.size ∧ Born nb ι l o ob ∧ ∀ ι' : Emb, ι' k = some l → ι.le ι' → (∀ cs es ty, o = .row cs es true ty → ι'.fz l.blk = some (cellsAt w' l.blk)) → VRel nb ι' z v
theorem aop_sound (hg : P.globals.size ≤ nb) (hf : FRel nb ι fr a.tmps) {o : Oper} {q : AOp} {k : Nat} {ob : Lite.Obj} {z : AV} (hs : slimA P nt o.op = some q) (hz : q.val fr k = some (ob, z)) :
    Makes1 P nb ι w (execOp a.eval o) k ob z := by
  have X : ∀ {x : Operand} {y : SX}, slimX P nt x = some y → VRel nb ι (y.ev fr) (a.eval x) := fun h => slimX_sound hg hf h
  unfold slimA at hs
  split at hs
  case h_1 t hop =>
    simp only [Option.map_eq_some_iff] at hs
    obtain ⟨zs, hzs, rfl⟩ := hs
    obtain ⟨i, zv, hi, hzv, hsz, habs⟩ := zeroT_spec hzs
    have hz0 := run_zeroValue (P := P) hi hzv w
    simp only [AOp.val, Option.some.injEq, Prod.mk.injEq] at hz
    obtain ⟨rfl, rfl⟩ := hz
    refine ⟨_, _, .cells zv.cells t, ⟨w.heap.size, 0, 0⟩, by simp [execOp, hop, Instr.alloc, hz0, newVar, newRow]; exact ⟨rfl, rfl⟩, by exact rfl, rfl, ?_, fun ι' hk _ _ => ?_⟩
    · refine ⟨_, _, _, rfl, fun j x hx => ?_, fun _ j _ h => by simp at h, fun h => absurd rfl h, fun t ht => ⟨rfl, by simpa using ht.symm, fun _ => by simpa using (absFlats_sound (nb := nb) (ι := ι) habs).length⟩⟩
      obtain ⟨v, hv, hr⟩ := (absFlats_sound (nb := nb) (ι := ι) habs).get _ _ hx
      exact ⟨v, by simpa using hv, hr⟩
    · simp only [VRel, locOf]
      exact ⟨_, hk, rfl⟩
  case h_2 t x hop =>
    simp only [Option.map_eq_some_iff] at hs
    obtain ⟨y, hy, rfl⟩ := hs
    simp only [AOp.val, Option.map_eq_some_iff, Prod.mk.injEq] at hz
    obtain ⟨cs, hcs, rfl, rfl⟩ := hz
    have hc := (X hy).cells hcs
    refine ⟨_, _, .cells (a.eval x).cells t, ⟨w.heap.size, 0, 0⟩, by simp [execOp, hop, Instr.box, newVar, newRow]; exact ⟨rfl, rfl⟩, by exact rfl, rfl, ?_, fun ι' hk _ _ => ?_⟩
    · refine ⟨_, _, _, rfl, fun j x hx => ?_, fun _ j _ h => by simp at h, fun h => absurd rfl h, fun t ht => ⟨rfl, by simpa using ht.symm, fun _ => by simpa using hc.length⟩⟩
      obtain ⟨v, hv, hr⟩ := hc.get _ _ hx
      exact ⟨v, by simpa using hv, hr⟩
    · simp only [VRel, locOf]
      exact ⟨_, hk, rfl⟩
  case h_3 t len parts hop =>
    split at hs
    case h_2 => cases hs
    rename_i e hu
    simp only [Option.bind_eq_some_iff] at hs
    obtain ⟨size, hsize, zs, hzs, hs⟩ := hs
    split at hs
    case isFalse => cases hs
    rename_i hcond
    simp only [Option.map_eq_some_iff] at hs
    obtain ⟨ps, hps, rfl⟩ := hs
    obtain ⟨i, zv, hi, hzv, hsz, habs⟩ := zeroT_spec hzs
    have hz0 := run_zeroValue (P := P) hi hzv w
    have hsi : size = i.size := by
      simp only [sizeT, hi, Option.map_some, Option.some.injEq] at hsize
      exact hsize.symm
    simp only [AOp.val, Option.map_eq_some_iff] at hz
    obtain ⟨cs, hcs, hz⟩ := hz
    obtain ⟨hl, hpl⟩ := partsOf_sound (a := a) hg hf hps
    have hzr : VRels nb ι zs zv.cells.toList := absFlats_sound habs
    have hzl : zs.length = size := by rw [← hzr.length]; simp; omega
    have hrow : VRels nb ι (rep zs len) ((Array.range (len * size)).map fun j => zv.cells[j % zv.cells.size]!).toList := by
      refine VRels.of_get ?_ fun j x v hx hv => ?_
      · have : ∀ n, (rep zs n).length = n * zs.length := fun n => by
          induction n with
          | zero => simp [rep]
          | succ n ih => simp [rep, ih, Nat.add_mul]; omega
        simp [this, hzl]
      · obtain ⟨u, hu1, hr⟩ := zeros_rel hzr len j x hx
        rw [hsz, ← hsi] at hu1
        rw [hsz, ← hsi] at hv
        rw [Array.getElem?_toList, hu1] at hv
        simp only [Option.some.injEq] at hv
        subst hv; exact hr
    obtain ⟨out, ho, hor⟩ := fill_sound (place := fun i => some (i * size, size)) (place' := fun _ => none) (by simpa using hl) hpl hrow hcs
    have h24 : ¬ (16777216 < len * size) := by omega
    have hrun : (execOp a.eval o).run P w = .ok (.value (.slice (some ⟨w.heap.size, 0, none⟩) len len)) (w.alloc (.cells out e)) := by
      by_cases hlz : len * size = 0
      · have hl0 : len = 0 := by
          rcases Nat.mul_eq_zero.1 hlz with h | h
          · exact h
          · exact absurd h hcond.1
        subst hl0
        have hr0 : (Array.range 0 : Array Nat) = #[] := rfl
        simp only [Nat.zero_mul, hr0, List.map_toArray, List.map_nil, Array.map_empty] at ho
        simp [execOp, hop, Instr.buildSlice, run_underlying hu, run_sizeOf hsize, newRow, hr0, ho]
      · simp [execOp, hop, Instr.buildSlice, run_underlying hu, run_sizeOf hsize, h24, hlz, hz0, ho, newRow]
    have hol := hor.length
    have hrl : (rep zs len).length = len * size := by
      have : ∀ n, (rep zs n).length = n * zs.length := fun n => by
        induction n with
        | zero => simp [rep]
        | succ n ih => simp [rep, ih, Nat.add_mul]; omega
      rw [this, hzl]
    have hcl : cs.length = len * size := by rw [fillAt_len hcs, hrl]
    have hes : len ≠ 0 → zs.length * len / len = size := fun h => by rw [Nat.mul_div_cancel _ (by omega), hzl]
    have hdiv : len ≠ 0 → (rep zs len).length / len = size := fun h => by rw [hrl, Nat.mul_comm, Nat.mul_div_cancel _ (by omega)]
    cases hcn : layOf cs with
    | none =>
      rw [hcn] at hz
      simp only [lay, Prod.mk.injEq] at hz
      obtain ⟨rfl, rfl⟩ := hz
      refine ⟨.slice (some ⟨w.heap.size, 0, none⟩) len len, w.alloc (.cells out e), .cells out e, ⟨w.heap.size, 0, 0⟩, hrun, rfl, rfl, ?_, fun ι' hk _ _ => ?_⟩
      · refine ⟨_, _, _, rfl, fun j x hx => ?_, fun _ j _ h => by simp at h, fun h => absurd rfl h, fun t ht => by cases ht⟩
        obtain ⟨v, hv, hr⟩ := hor.get _ _ hx
        exact ⟨v, by simpa using hv, hr⟩
      · simp only [VRel, locOf, capRel]
        exact ⟨_, len, hk, rfl, Nat.le_refl _, rfl⟩
    | some ds =>
      rw [hcn] at hz
      simp only [lay, Prod.mk.injEq] at hz
      obtain ⟨rfl, rfl⟩ := hz
      obtain ⟨d1, d2⟩ := canonL_sound (layOf_canonL hcn) hor
      refine ⟨.slice (some ⟨w.heap.size, 0, none⟩) len len, w.alloc (.cells out e), .cells out e, ⟨w.heap.size, 0, 0⟩, hrun, rfl, rfl, ?_, fun ι' hk hle hfz => ?_⟩
      · refine ⟨_, _, _, rfl, fun j x hx => ?_, fun h => by simp at h, fun h => absurd rfl h, fun t ht => by cases ht⟩
        obtain ⟨v, hv, hr⟩ := d1.get _ _ hx
        exact ⟨v, by simpa using hv, hr⟩
      · cases len with
        | zero =>
          simp only [Nat.beq_refl, cond_true, VRel]
          exact ⟨rfl, _, 0, rfl, Nat.le_refl _, fun _ => rfl, fun _ => rfl, fun h => absurd rfl h⟩
        | succ len =>
          have hb0 : Nat.beq (len + 1) 0 = false := rfl
          simp only [hb0, cond_false, VRel]
          have hdl : ds.length = (len + 1) * size := by rw [← d1.length]; simpa [hcl] using hol
          refine ⟨by rw [hdiv (by omega)]; exact hdl, _, len + 1, rfl, Nat.le_refl _, fun _ => rfl, (fun h => by cases h), fun _ => ⟨w.heap.size, 0, out.toList, rfl, (VRels.pure _ _ d2 d1).mono (Emb.bare_mono hle), _, hfz _ _ _ rfl, fun i v hv => ?_⟩⟩
          have h0 : (w.alloc (.cells out e)).heap[w.heap.size]? = some (.cells out e) := heap_push_new (w := w) rfl
          have hca : cellsAt (w.alloc (.cells out e)) w.heap.size = out := by unfold cellsAt; rw [h0]
          simp only [hca, Nat.zero_add]
          simpa using hv
  case h_4 t ln cp hop =>
    simp only [Option.bind_eq_some_iff] at hs
    obtain ⟨l', hl, c', hc, hs⟩ := hs
    split at hs
    case h_2 => cases hs
    rename_i e hu
    simp only [Option.bind_eq_some_iff] at hs
    obtain ⟨i, hi, zs, hzs, hs⟩ := hs
    split at hs
    · cases hs
    rename_i hne
    simp only [Option.some.injEq] at hs; subst hs
    obtain ⟨i', zv, hi', hzv, hsz, habs⟩ := zeroT_spec hzs
    obtain rfl : i' = i := by rw [hi] at hi'; simpa using hi'.symm
    have hz0 := run_zeroValue (P := P) hi hzv w
    have hzr : VRels nb ι zs zv.cells.toList := absFlats_sound habs
    simp only [AOp.val, Option.bind_eq_some_iff] at hz
    obtain ⟨n, hn, c, hcn, hz⟩ := hz
    split at hz
    case isFalse => cases hz
    rename_i hcond
    obtain ⟨h1, h2, h3⟩ := hcond
    simp only [Option.some.injEq, Prod.mk.injEq] at hz
    obtain ⟨rfl, rfl⟩ := hz
    obtain ⟨k1, hv1⟩ := (X hl).asNat hn
    obtain ⟨k2, hv2⟩ := (X hc).asNat hcn
    have w1 : IntKind.i64.wrap (n : Int) = n := by simp [IntKind.wrap, IntKind.bits, IntKind.signed]; omega
    have w2 : IntKind.i64.wrap (c : Int) = c := by simp [IntKind.wrap, IntKind.bits, IntKind.signed]; omega
    have hb : ¬ ((281474976710656 : Int) < (i'.bytes : Int) * (c : Int)) := by
      have : i'.bytes * c ≤ 1099511627776 := by rw [Nat.mul_comm]; exact h2
      have := Int.ofNat_le.2 this
      simp at this
      omega
    have hrun : (Instr.makeSlice t (a.eval ln) (a.eval cp)).run P w =
        .ok (.slice (some ⟨w.heap.size, 0, none⟩) n c) (w.alloc (.cells ((Array.range (c * i'.size)).map fun j => zv.cells[j % zv.cells.size]!) e)) := by
      have e1 : ¬ ((c : Int) < 0) := by omega
      have e2 : ¬ ((n : Int) < 0) := by omega
      have e3 : ¬ ((c : Int) < (n : Int)) := by omega
      by_cases hc0 : c = 0
      · subst hc0
        obtain rfl : n = 0 := by omega
        have hr0 : (Array.range 0 : Array Nat) = #[] := rfl
        simp [Instr.makeSlice, run_underlying hu, hv1, hv2, asInt, asIntOf, typeInfo, hi, sizeOf, newRow, IntKind.wrap, IntKind.bits, IntKind.signed, hr0]
      · have : ¬ (c * i'.size = 0) := fun h => by rcases Nat.mul_eq_zero.1 h with h | h <;> contradiction
        simp [Instr.makeSlice, run_underlying hu, hv1, hv2, asInt, asIntOf, typeInfo, hi, sizeOf, w1, w2, hb, e1, e2, e3, this, hz0, newRow]
    refine ⟨_, _, .cells ((Array.range (c * i'.size)).map fun j => zv.cells[j % zv.cells.size]!) e, ⟨w.heap.size, 0, 0⟩, by simp [execOp, hop, hrun]; exact ⟨rfl, rfl⟩, by exact rfl, rfl, ?_, fun ι' hk _ _ => ?_⟩
    · refine ⟨_, _, _, rfl, fun j x hx => ?_, fun _ j _ h => by simp at h, fun h => absurd rfl h, fun t ht => by cases ht⟩
      obtain ⟨v, hv, hr⟩ := zeros_rel hzr c j x hx
      rw [hsz] at hv
      rw [hsz]
      exact ⟨v, by simpa using hv, hr⟩
    · simp only [VRel, locOf, capRel]
      exact ⟨_, c, hk, rfl, h1, rfl⟩
  case h_5 src dst x hop =>
    simp only [Option.bind_eq_some_iff] at hs
    obtain ⟨y, hy, hs⟩ := hs
    split at hs
    case h_2 => cases hs
    rename_i e h1 h2
    split at hs
    case h_2 => cases hs
    rename_i h3
    simp only [Option.some.injEq] at hs; subst hs
    simp only [AOp.val, Option.bind_eq_some_iff] at hz
    obtain ⟨s, hs', hz⟩ := hz
    split at hz
    case isFalse => cases hz
    simp only [Option.some.injEq, Prod.mk.injEq] at hz
    obtain ⟨rfl, rfl⟩ := hz
    obtain ⟨b, hb, hbs⟩ := (X hy).asStr hs'
    have hbl : b.size = s.length := by rw [Lib.size_eq, ← hbs, List.length_map]
    have hge := grownCap_ge w b.size 0 e
    have hsz : (bytesRow b (grownCap w b.size 0 e)).size = grownCap w b.size 0 e := by
      unfold bytesRow
      simp only [Array.size_append, Array.size_map, Array.size_replicate]
      have : b.data.size = b.size := rfl
      omega
    refine ⟨_, _, _, ⟨w.heap.size, 0, grownCap w b.size 0 e⟩, by simp [execOp, hop, hb, run_bytes_of_string w src dst e b h1 h2 h3]; exact ⟨rfl, rfl⟩, by exact rfl, rfl, ?_, fun ι' hk _ _ => ?_⟩
    · refine ⟨_, _, _, rfl, fun j x hx => ?_, fun _ j hj h => ?_, fun _ => by simp only []; rw [hsz]; omega, fun t ht => by cases ht⟩
      · simp only [List.getElem?_map, Option.map_eq_some_iff] at hx
        obtain ⟨n, hn, rfl⟩ := hx
        unfold bytesRel at hbs
        rw [← hbs] at hn
        simp only [List.getElem?_map, Option.map_eq_some_iff] at hn
        obtain ⟨u, hu, rfl⟩ := hn
        have hj : j < b.data.size := by simpa using (List.getElem?_eq_some_iff.1 hu).1
        refine ⟨.int .u8 u.toNat, ?_, by simp only [VRel]⟩
        simp only [Nat.zero_add]
        rw [bytesRow_at b _ j hj]
        have := (List.getElem?_eq_some_iff.1 hu).2
        rw [← this]; rfl
      · simp only [] at h; omega
    · simp only [VRel, locOf, capRel]
      exact ⟨_, grownCap w b.size 0 e, hk, by rw [hbl], by omega, .inr (by simp)⟩
  case h_6 t x hop =>
    simp only [Option.bind_eq_some_iff] at hs
    obtain ⟨y, hy, hs⟩ := hs
    split at hs
    case h_2 => cases hs
    rename_i hu
    simp only [Option.some.injEq] at hs; subst hs
    simp only [AOp.val, Option.map_eq_some_iff, Prod.mk.injEq] at hz
    obtain ⟨s, hs', rfl, rfl⟩ := hz
    obtain ⟨b, hb, hbs⟩ := (X hy).asStr hs'
    refine ⟨_, _, .stringIter b 0, ⟨w.heap.size, 0, 0⟩, by simp [execOp, hop, hb, run_range_string w t b hu]; exact ⟨rfl, rfl⟩, by exact rfl, rfl, ⟨rfl, b, hbs, rfl⟩, fun ι' hk _ _ => ?_⟩
    simp only [VRel, locOf]
    exact ⟨_, hk, rfl⟩
  case h_7 => cases hs
end Go.Lite

/-
  Each operation that writes comes, in the model, to what the interpreter says.
-/
namespace Go.Lite
open Go
variable {P : Program} {nb : NB} {ι : Emb} {H : Heap} {w : World} {fr : Fr} {a : Act} {nt : Nat}
theorem size_setCells (b : Nat) : ∀ (vs : List Value) (o : Nat) (w : World), (w.setCells b o vs).heap.size = w.heap.size
  | [], o, w => rfl
  | v :: vs, o, w => by
    show ((w.setCell ⟨b, o, none⟩ v).setCells b (o + 1) vs).heap.size = _
    rw [size_setCells b vs]; simp
theorem other_setCells {b c : Nat} (h : c ≠ b) : ∀ (vs : List Value) (o : Nat) (w : World), (w.setCells b o vs).heap[c]? = w.heap[c]?
  | [], o, w => rfl
  | v :: vs, o, w => by
    show ((w.setCell ⟨b, o, none⟩ v).setCells b (o + 1) vs).heap[c]? = _
    rw [other_setCells h vs]
    simp only [World.setCell, Array.getElem?_modify]
    rw [if_neg (Ne.symm h)]
theorem env_setCells (b : Nat) : ∀ (vs : List Value) (o : Nat) (w : World), (w.setCells b o vs).os = w.os ∧ (w.setCells b o vs).tape = w.tape ∧ (w.setCells b o vs).output = w.output
  | [], _, _ => ⟨rfl, rfl, rfl⟩
  | v :: vs, o, w => env_setCells b vs (o + 1) (w.setCell ⟨b, o, none⟩ v)
theorem shape_setCells (b c : Nat) : ∀ (vs : List Value) (o : Nat) (w : World), (w.setCells b o vs).shape? c = w.shape? c
  | [], _, _ => rfl
  | v :: vs, o, w => by
    show ((w.setCell ⟨b, o, none⟩ v).setCells b (o + 1) vs).shape? c = _
    rw [shape_setCells b c vs]
    simp only [World.shape?, World.setCell, Array.getElem?_modify]
    by_cases h : b = c
    · subst h
      simp only [if_true]
      cases hb : w.heap[b]? with
      | none => rfl
      | some ob => cases ob <;> simp
    · rw [if_neg h]
theorem Rel.write {k : Nat} {l : Loc} {cs cs' : List AV} {es o : Nat} {ty : Option Nat} {us : List Value} {H' : Heap} (r : Rel nb ι H w) (hk : ι k = some l) (hget : H.t.get k = some (.row cs es false ty)) (hlen : es = 0 → cs'.length = cs.length)
    (hex : ∀ j, j < us.length → (w.cell? ⟨l.blk, l.off + o + j, none⟩).isSome = true)
    (hH : ∀ j, H'.t.get j = if j = k then some (.row cs' es false ty) else H.t.get j) (hn : H'.n = H.n) (hbase : H'.base = H.base)
    (hcs : ∀ i x, cs'[i]? = some x → (∃ j u, i = o + j ∧ us[j]? = some u ∧ VRel nb ι x u) ∨ (cs[i]? = some x ∧ (i < o ∨ o + us.length ≤ i))) :
    Rel nb ι H' (w.setCells l.blk (l.off + o) us) ∧ Ext nb ι H w ι H' (w.setCells l.blk (l.off + o) us) := by
  have hoth : ∀ c, c ≠ l.blk → (w.setCells l.blk (l.off + o) us).heap[c]? = w.heap[c]? := fun c hc => other_setCells hc us _ w
  have hsz := size_setCells l.blk us (l.off + o) w
  have hd := r.dom k l hk
  have hcellex : ∀ i v, w.cell? ⟨l.blk, i, none⟩ = some v → ∃ u, (w.setCells l.blk (l.off + o) us).cell? ⟨l.blk, i, none⟩ = some u := fun i v h => by
    by_cases hi : l.off + o ≤ i ∧ i < l.off + o + us.length
    · have h1 := World.cell?_setCells_in l.blk us (l.off + o) w hex (i - (l.off + o)) (by omega)
      rw [show l.off + o + (i - (l.off + o)) = i by omega] at h1
      exact ⟨_, h1⟩
    · refine ⟨v, ?_⟩
      rw [World.cell?_setCells_out l.blk us (l.off + o) w ⟨l.blk, i, none⟩ (fun _ _ => by simp only []; omega)]
      exact h
  constructor
  · refine ⟨by rw [hsz]; exact r.nbw, ?_, ?_, ?_, ?_, ?_, ?_, ?_, nb.keep w _ (fun b hb => hoth b (by have := (r.dom k l hk).1; omega)) r.inv⟩
    · intro b bs hb
      rw [hbase] at hb
      refine ⟨(r.old b bs hb).1, fun i x hx => ?_⟩
      obtain ⟨v, hv, hr⟩ := (r.old b bs hb).2 i x hx
      have hne : b ≠ l.blk := by have := (r.old b bs hb).1; omega
      exact ⟨v, by rw [cell?_of_heap (hoth b hne)]; exact hv, hr⟩
    · intro j q ds es' fz ty' hj hoj
      rw [hH] at hoj
      by_cases hjk : j = k
      · subst hjk
        rw [if_pos rfl] at hoj
        simp only [Option.some.injEq, Obj.row.injEq] at hoj
        obtain ⟨rfl, rfl, rfl, rfl⟩ := hoj
        obtain rfl : q = l := by rw [hk] at hj; simpa using hj.symm
        obtain ⟨h1, h2, h3, h4⟩ := r.row j q cs es false _ hk hget
        refine ⟨fun i x hx => ?_, fun _ i v hv => ?_, fun he i hi => ?_, fun t ht => ?_⟩
        · rcases hcs i x hx with ⟨j', u, rfl, hu, hr⟩ | ⟨hx', hout⟩
          · have hlt := (List.getElem?_eq_some_iff.1 hu).1
            have := World.cell?_setCells_in q.blk us (q.off + o) w hex j' hlt
            refine ⟨u, ?_, hr⟩
            rw [← Nat.add_assoc, this]
            have := (List.getElem?_eq_some_iff.1 hu).2
            rw [this]
          · obtain ⟨v, hv, hr⟩ := h1 i x hx'
            refine ⟨v, ?_, hr⟩
            rw [World.cell?_setCells_out q.blk us (q.off + o) w ⟨q.blk, q.off + i, none⟩ (fun _ _ => by simp only []; omega)]
            exact hv
        · rw [World.frozen?_setCells]
          by_cases hi : q.off + o ≤ i ∧ i < q.off + o + us.length
          · have := hex (i - (q.off + o)) (by omega)
            rw [show q.off + o + (i - (q.off + o)) = i by omega] at this
            obtain ⟨v', hv'⟩ := Option.isSome_iff_exists.1 this
            exact h2 rfl i v' hv'
          · rw [World.cell?_setCells_out q.blk us (q.off + o) w ⟨q.blk, i, none⟩ (fun _ _ => by simp only []; omega)] at hv
            exact h2 rfl i v hv
        · obtain ⟨v, hv⟩ := h3 he i hi
          exact hcellex _ v hv
        · obtain ⟨g0, c, g1, g2⟩ := h4 t ht
          exact ⟨g0, c, by rw [shape_setCells]; exact g1, fun he => (g2 he).trans (hlen he).symm⟩
      · rw [if_neg hjk] at hoj
        have hne : q.blk ≠ l.blk := fun e => hjk (r.inj j k q l _ _ hj hk hoj hget e)
        obtain ⟨h1, h2, h3, h4⟩ := r.row j q ds es' fz ty' hj hoj
        refine ⟨fun i x hx => ?_, fun hf i v hv => ?_, fun he i hi => ?_, h4.of_heap (hoth _ hne)⟩
        · obtain ⟨v, hv, hr⟩ := h1 i x hx
          exact ⟨v, by rw [cell?_of_heap (hoth _ hne)]; exact hv, hr⟩
        · rw [cell?_of_heap (hoth _ hne)] at hv
          rw [frozen?_of_heap (hoth _ hne)]
          exact h2 hf i v hv
        · obtain ⟨v, hv⟩ := h3 he i hi
          exact ⟨v, by rw [cell?_of_heap (hoth _ hne)]; exact hv⟩
    · intro j q s pos hj hoj
      rw [hH] at hoj
      by_cases hjk : j = k
      · rw [if_pos hjk] at hoj; simp at hoj
      · rw [if_neg hjk] at hoj
        have hne : q.blk ≠ l.blk := fun e => hjk (r.inj j k q l _ _ hj hk hoj hget e)
        obtain ⟨h0, b, hb1, hb2⟩ := r.iter j q s pos hj hoj
        exact ⟨h0, b, hb1, by rw [hoth _ hne]; exact hb2⟩
    · intro j q hj
      rw [hsz, hn]
      exact r.dom j q hj
    · intro j j' q q' o1 o2 hj hj' h1 h2 hb
      rw [hH] at h1 h2
      have f : ∀ (j : Nat) (o1 : Lite.Obj), (if j = k then some (Obj.row cs' es false ty) else H.t.get j) = some o1 → ∃ o2, H.t.get j = some o2 := fun j o1 h => by
        by_cases e : j = k
        · subst e; exact ⟨_, hget⟩
        · rw [if_neg e] at h; exact ⟨_, h⟩
      obtain ⟨p1, e1⟩ := f j o1 h1
      obtain ⟨p2, e2⟩ := f j' o2 h2
      exact r.inj j j' q q' p1 p2 hj hj' e1 e2 hb
    · intro j o1 h1
      rw [hH] at h1
      rw [hn]
      by_cases e : j = k
      · subst e; exact hd.2.2
      · rw [if_neg e] at h1; exact r.lt j o1 h1
    · intro b c hc
      obtain ⟨g1, g2, g3⟩ := r.fz b c hc
      have hne : b ≠ l.blk := fun e => by
        obtain ⟨_, _, _, e2⟩ := g3 k l _ hk hget e.symm
        simp at e2
      refine ⟨by rw [hsz]; exact g1, fun i => by rw [cell?_of_heap (hoth b hne)]; exact g2 i, fun j q o1 hj hoj hb => ?_⟩
      rw [hH] at hoj
      by_cases e : j = k
      · subst e
        rw [hk] at hj
        simp only [Option.some.injEq] at hj
        subst hj
        exact absurd hb.symm hne
      · rw [if_neg e] at hoj
        exact g3 j q o1 hj hoj hb
  · refine ⟨Emb.le_refl ι, by rw [hsz]; exact Nat.le_refl _, fun b hb hc => ?_, fun j q hj _ => ⟨j, q, hj, rfl⟩, fun _ _ h => .inl h, by rw [hn]; exact Nat.le_refl _, fun j _ hj => ?_, hbase, env_setCells l.blk us _ w, fun _ _ h => .inl h⟩
    · refine hoth b ?_
      rcases hc with hc | hc
      · omega
      · exact fun e => hc k l hk e.symm
    · rw [hH]
      rw [if_neg]
      rintro rfl
      rw [hk] at hj; cases hj
def Writes1 (P : Program) (nb : NB) (ι : Emb) (H : Heap) (w : World) (s : Sem Next) (z : AV) (H' : Heap) : Prop :=
  ∃ v w' ι' q, s.run P w = .ok q w' ∧ (q = .value v ∨ (q = .skip ∧ v = undef)) ∧ VRel nb ι' z v ∧ Rel nb ι' H' w' ∧ Ext nb ι H w ι' H' w'
theorem putAt_get {cs vs : List AV} {o : Nat} (h : o + vs.length ≤ cs.length) (i : Nat) (x : AV) (hx : (putAt cs o vs)[i]? = some x) :
    (∃ j, i = o + j ∧ vs[j]? = some x) ∨ (cs[i]? = some x ∧ (i < o ∨ o + vs.length ≤ i)) := by
  unfold putAt at hx
  have ht : (cs.take o).length = o := by rw [List.length_take]; omega
  by_cases h1 : i < o
  · rw [List.append_assoc, List.getElem?_append_left (by omega), List.getElem?_take_of_lt h1] at hx
    exact .inr ⟨hx, .inl h1⟩
  · by_cases h2 : i < o + vs.length
    · rw [List.append_assoc, List.getElem?_append_right (by omega), List.getElem?_append_left (by omega), ht] at hx
      exact .inl ⟨i - o, by omega, hx⟩
    · rw [List.getElem?_append_right (by simp [ht]; omega), List.getElem?_drop] at hx
      simp only [List.length_append, ht] at hx
      rw [show o + vs.length + (i - (o + vs.length)) = i by omega] at hx
      exact .inr ⟨hx, .inr (by omega)⟩
theorem st_sound (r : Rel nb ι H w) {p : Blk} {o : Nat} {l : Loc} {vs : List AV} {us : List Value} {H' : Heap} (hl : locOf nb ι p l) (hvs : VRels nb ι vs us) (h : H.st p o vs = some H') :
    (∀ j, j < us.length → (w.cell? ⟨l.blk, l.off + o + j, none⟩).isSome = true ∧ w.frozen? ⟨l.blk, l.off + o + j, none⟩ = false) ∧
    Rel nb ι H' (w.setCells l.blk (l.off + o) us) ∧ Ext nb ι H w ι H' (w.setCells l.blk (l.off + o) us) := by
  cases p with
  | old b => simp [Heap.st] at h
  | val b => simp [Heap.st] at h
  | new k =>
    simp only [Heap.st] at h
    split at h
    case h_2 => cases h
    rename_i cs es ty hget
    split at h
    case isFalse => cases h
    rename_i hle
    simp only [Option.some.injEq] at h; subst h
    obtain ⟨h1, h2, h3, h4⟩ := r.row k l cs es false ty hl hget
    have hul := hvs.length
    have hex : ∀ j, j < us.length → ∃ v, w.cell? ⟨l.blk, l.off + o + j, none⟩ = some v := fun j hj => by
      obtain ⟨v, hv, _⟩ := h1 (o + j) (cs[o + j]'(by omega)) (List.getElem?_eq_getElem _)
      exact ⟨v, by rw [Nat.add_assoc]; exact hv⟩
    refine ⟨fun j hj => ?_, ?_⟩
    · obtain ⟨v, hv⟩ := hex j hj
      exact ⟨by rw [hv]; rfl, h2 rfl _ v hv⟩
    · refine r.write hl hget (fun _ => by unfold putAt; simp; omega) (fun j hj => by obtain ⟨v, hv⟩ := hex j hj; rw [hv]; rfl) (cs' := putAt cs o vs) (fun j => by simp only [Heap.put, T.get_set]) rfl rfl fun i x hx => ?_
      rcases putAt_get hle i x hx with ⟨j, rfl, hj⟩ | ⟨hx', hout⟩
      · obtain ⟨u, hu, hr⟩ := hvs.get j x hj
        exact .inl ⟨j, u, rfl, hu, hr⟩
      · exact .inr ⟨hx', by omega⟩
end Go.Lite

/-
  An append, a step of an iterator: in the model and by the interpreter.
-/
namespace Go.Lite
open Go
variable {P : Program} {nb : NB} {ι : Emb} {H : Heap} {w : World} {fr : Fr} {a : Act} {nt : Nat}
theorem Rel.del (r : Rel nb ι H w) (k : Nat) : Rel nb ι (H.del k) w where
  nbw := r.nbw
  inv := r.inv
  old := r.old
  row j l cs es fz ty hj ho := by
    simp only [Heap.del, T.get_del] at ho
    split at ho
    · cases ho
    · exact r.row j l cs es fz ty hj ho
  iter j l s pos hj ho := by
    simp only [Heap.del, T.get_del] at ho
    split at ho
    · cases ho
    · exact r.iter j l s pos hj ho
  dom := r.dom
  inj j j' l l' o1 o2 hj hj' h1 h2 hb := by
    simp only [Heap.del, T.get_del] at h1 h2
    split at h1
    · cases h1
    split at h2
    · cases h2
    exact r.inj j j' l l' o1 o2 hj hj' h1 h2 hb
  lt j o1 h := by
    simp only [Heap.del, T.get_del] at h ⊢
    split at h
    · cases h
    · exact r.lt j o1 h
  fz b c hc := by
    obtain ⟨g1, g2, g3⟩ := r.fz b c hc
    refine ⟨g1, g2, fun j l o1 hj ho hb => ?_⟩
    simp only [Heap.del, T.get_del] at ho
    split at ho
    · cases ho
    · exact g3 j l o1 hj ho hb
theorem Rel.rename {k o es : Nat} {l : Loc} {cs : List AV} {ty ty2 : Option Nat} {H' : Heap} (r : Rel nb ι H w) (hk : ι k = some l) (hget : H.t.get k = some (.row cs es false ty)) (hty : ∀ t, ty2 = some t → o = 0 ∧ ty = some t) (ho : o ≤ cs.length)
    (hlim : es ≠ 0 → o ≤ l.lim)
    (hH : ∀ j, H'.t.get j = if j = H.n then some (.row (cs.drop o) es false ty2) else if j = k then none else H.t.get j) (hn : H'.n = H.n + 1) (hbase : H'.base = H.base) :
    Rel nb (ι.put H.n ⟨l.blk, l.off + o, l.lim - o⟩) H' w ∧ Ext nb ι H w (ι.put H.n ⟨l.blk, l.off + o, l.lim - o⟩) H' w := by
  have hnone : ι H.n = none := by
    cases h : ι H.n with
    | none => rfl
    | some q => have := (r.dom _ _ h).2.2; omega
  have hle : ι.le (ι.put H.n ⟨l.blk, l.off + o, l.lim - o⟩) := Emb.le_put hnone
  have hd := r.dom k l hk
  obtain ⟨g1, g2, g3, g4⟩ := r.row k l cs es false ty hk hget
  constructor
  · refine ⟨r.nbw, ?_, ?_, ?_, ?_, ?_, ?_, ?_, r.inv⟩
    · intro b bs hb
      rw [hbase] at hb
      refine ⟨(r.old b bs hb).1, fun i x hx => ?_⟩
      obtain ⟨v, hv, hr⟩ := (r.old b bs hb).2 i x hx
      exact ⟨v, hv, hr⟩
    · intro j q ds es' fz ty' hj hoj
      rw [hH] at hoj
      simp only [Emb.put_at] at hj
      by_cases hjn : j = H.n
      · rw [if_pos hjn] at hj hoj
        simp only [Option.some.injEq, Obj.row.injEq] at hj hoj
        obtain ⟨rfl, rfl, rfl, rfl⟩ := hoj
        subst hj
        refine ⟨fun i x hx => ?_, fun hf i v hv => g2 hf i v hv, fun he i hi => ?_, fun t ht => ?_⟩
        · rw [List.getElem?_drop] at hx
          obtain ⟨v, hv, hr⟩ := g1 _ x hx
          exact ⟨v, by simp only [Nat.add_assoc]; exact hv, hr.mono hle⟩
        · have := hlim he
          simp only [] at hi
          obtain ⟨v, hv⟩ := g3 he (o + i) (by omega)
          exact ⟨v, by simp only [Nat.add_assoc]; exact hv⟩
        · obtain ⟨h0, h1⟩ := hty t ht
          obtain ⟨q0, c, q1, q2⟩ := g4 t h1
          exact ⟨by simp only []; omega, c, q1, fun he => by rw [q2 he, h0]; rfl⟩
      · rw [if_neg hjn] at hj hoj
        split at hoj
        · cases hoj
        · obtain ⟨h1, h2, h3, h4⟩ := r.row j q ds es' fz ty' hj hoj
          refine ⟨fun i x hx => ?_, h2, h3, h4⟩
          obtain ⟨v, hv, hr⟩ := h1 i x hx
          exact ⟨v, hv, hr.mono hle⟩
    · intro j q s pos hj hoj
      rw [hH] at hoj
      simp only [Emb.put_at] at hj
      by_cases hjn : j = H.n
      · rw [if_pos hjn] at hoj; simp at hoj
      · rw [if_neg hjn] at hj hoj
        split at hoj
        · cases hoj
        · exact r.iter j q s pos hj hoj
    · intro j q hj
      simp only [Emb.put_at] at hj
      rw [hn]
      by_cases hjn : j = H.n
      · rw [if_pos hjn] at hj
        simp only [Option.some.injEq] at hj
        subst hj
        exact ⟨hd.1, hd.2.1, by omega⟩
      · rw [if_neg hjn] at hj
        have := r.dom j q hj
        exact ⟨this.1, this.2.1, by omega⟩
    · intro j j' q q' o1 o2 hj hj' h1 h2 hb
      rw [hH] at h1 h2
      simp only [Emb.put_at] at hj hj'
      by_cases e1 : j = H.n <;> by_cases e2 : j' = H.n
      · omega
      · rw [if_pos e1] at hj
        rw [if_neg e2] at hj' h2
        simp only [Option.some.injEq] at hj
        subst hj
        split at h2
        · cases h2
        · rename_i hne
          exact absurd (r.inj j' k q' l _ _ hj' hk h2 hget hb.symm) hne
      · rw [if_neg e1] at hj h1
        rw [if_pos e2] at hj'
        simp only [Option.some.injEq] at hj'
        subst hj'
        split at h1
        · cases h1
        · rename_i hne
          exact absurd (r.inj j k q l _ _ hj hk h1 hget hb) hne
      · rw [if_neg e1] at hj h1
        rw [if_neg e2] at hj' h2
        split at h1
        · cases h1
        split at h2
        · cases h2
        exact r.inj j j' q q' o1 o2 hj hj' h1 h2 hb
    · intro j o1 h1
      rw [hH] at h1
      rw [hn]
      by_cases e1 : j = H.n
      · omega
      · rw [if_neg e1] at h1
        split at h1
        · cases h1
        · have := r.lt j o1 h1; omega
    · intro b c hc
      obtain ⟨k1, k2, k3⟩ := r.fz b c hc
      refine ⟨k1, k2, fun j q o1 hj hoj hb => ?_⟩
      rw [hH] at hoj
      simp only [Emb.put_at] at hj
      by_cases hjn : j = H.n
      · rw [if_pos hjn] at hj
        simp only [Option.some.injEq] at hj
        subst hj
        obtain ⟨_, _, _, e2⟩ := k3 k l _ hk hget hb
        simp at e2
      · rw [if_neg hjn] at hj hoj
        split at hoj
        · cases hoj
        · exact k3 j q o1 hj hoj hb
  · refine ⟨hle, Nat.le_refl _, fun _ _ _ => rfl, fun j q hj _ => ?_, fun j q hj => ?_, by omega, fun j hj hjn => ?_, hbase, ⟨rfl, rfl, rfl⟩, fun _ _ h => .inl h⟩
    · simp only [Emb.put_at] at hj
      by_cases hjn : j = H.n
      · rw [if_pos hjn] at hj
        simp only [Option.some.injEq] at hj
        subst hj
        exact ⟨k, l, hk, rfl⟩
      · rw [if_neg hjn] at hj
        exact ⟨j, q, hj, rfl⟩
    · simp only [Emb.put_at] at hj
      by_cases hjn : j = H.n
      · right; omega
      · rw [if_neg hjn] at hj; exact .inl hj
    · rw [hH, if_neg (by omega), if_neg]
      rintro rfl
      rw [hk] at hjn; cases hjn
/-! ### append -/
theorem taken_sound (r : Rel nb ι H w) {tx : TypeId} {size n : Nat} {x : AV} {u : Value} {cs : List AV} (hk : (∃ e', P.underlying tx = some (.slice e')) ∨ P.underlying tx = some .string)
    (hx : VRel nb ι x u) (h : taken size H x = some (n, cs)) (hfl : cs.all AV.flat = true) : ∃ news : List Value, VRels nb ι cs news ∧ Src P size tx u n news w := by
  unfold taken at h
  have hcast : ∀ {news : List Value} {v : Value} {m : Nat}, (∀ tx', (∃ e', P.underlying tx' = some (.slice e')) → Src P size tx' v m news w) → True := fun _ => trivial
  cases x <;> simp only [Option.some.injEq, Prod.mk.injEq, reduceCtorEq, Option.map_eq_some_iff] at h
  case nils =>
    obtain ⟨rfl, rfl⟩ := h
    simp only [VRel] at hx; subst hx
    refine ⟨[], by simp [VRels], ⟨hk, fun _ => rfl, by simp [Builtin.firstCells], by simp [Builtin.firstCells], by simp, fun _ h => by cases h⟩⟩
  case emp =>
    obtain ⟨rfl, rfl⟩ := h
    simp only [VRel] at hx
    obtain ⟨q, cap, rfl⟩ := hx
    refine ⟨[], by simp [VRels], ⟨hk, fun _ => rfl, by simp [Builtin.firstCells, loadCells, loadCellsFrom], by simp [Builtin.firstCells, loadCells, loadCellsFrom], by simp, fun _ h => by cases h⟩⟩
  case slice p o m c =>
    obtain ⟨bs, hb, rfl, rfl⟩ := h
    simp only [VRel] at hx
    obtain ⟨l, cap, hl, rfl, _, _⟩ := hx
    obtain ⟨_, us, hul, hrange, hus⟩ := ldn_sound r hl hb
    refine ⟨us, hus, ⟨hk, fun _ => rfl, run_firstCells_some w size m _ m cap us hul (fun j v hv => by rw [Addr.add_mid]; exact hrange j v hv), run_firstCells_some w.drew size m _ m cap us hul (fun j v hv => by rw [Addr.add_mid]; simpa using hrange j v hv), hul, hus.flat hfl⟩⟩
  case str s =>
    split at h
    case isFalse => cases h
    rename_i h1
    subst h1
    simp only [Option.some.injEq, Prod.mk.injEq] at h
    obtain ⟨rfl, rfl⟩ := h
    simp only [VRel] at hx
    obtain ⟨b, rfl, hb⟩ := hx
    have hbl : b.size = s.length := by rw [Lib.size_eq, ← hb, List.length_map]
    have hs : VRels nb ι (s.map fun (b : Nat) => AV.int .u8 (b : Int)) (byteCells b) := by
      refine VRels.of_get (by rw [byteCells_length]; simp [hbl]) fun i x v hx hv => ?_
      unfold byteCells at hv
      unfold bytesRel at hb
      rw [← hb] at hx
      simp only [List.map_map, List.getElem?_map, Option.map_eq_some_iff] at hx hv
      obtain ⟨c, hc, rfl⟩ := hx
      obtain ⟨c', hc', rfl⟩ := hv
      rw [hc] at hc'
      simp only [Option.some.injEq] at hc'
      subst hc'
      simp only [VRel, Function.comp]
    refine ⟨byteCells b, hs, ⟨hk, fun _ => by simp [Builtin.lenOf, hbl], ?_, ?_, by rw [byteCells_length, hbl, Nat.mul_one], fun u hu => by
      obtain ⟨_, _, rfl⟩ := List.mem_map.1 hu
      rfl⟩⟩
    · rw [← hbl]; exact firstCells_string b w
    · rw [← hbl]; exact firstCells_string b w.drew
  case lst es m f ds =>
    split at h
    case isFalse => cases h
    rename_i hes
    simp only [Option.some.injEq, Prod.mk.injEq] at h
    obtain ⟨rfl, rfl⟩ := h
    simp only [VRel] at hx
    obtain ⟨g0, a0, cap, rfl, g1, g2, g3, g4⟩ := hx
    by_cases hm : m = 0
    · subst hm
      simp only [Nat.zero_mul] at g0
      obtain rfl := List.eq_nil_of_length_eq_zero g0
      cases a0 with
      | none => refine ⟨[], by simp [VRels], ⟨hk, fun _ => rfl, by simp [Builtin.firstCells], by simp [Builtin.firstCells], by simp, fun _ h => by cases h⟩⟩
      | some q => refine ⟨[], by simp [VRels], ⟨hk, fun _ => rfl, by simp [Builtin.firstCells, loadCells, loadCellsFrom], by simp [Builtin.firstCells, loadCells, loadCellsFrom], by simp, fun _ h => by cases h⟩⟩
    · obtain rfl := hes.resolve_right hm
      obtain ⟨b, o, us, rfl, k1, c0, k2, k3⟩ := g4 hm
      have hul : us.length = m * es := by rw [k1.length]; exact g0
      have hus := VRels.mono ι.bare_le _ _ k1
      have hr : ∀ j v, us[j]? = some v → w.cell? ⟨b, o + j, none⟩ = some v := r.held ⟨c0, k2, k3⟩
      refine ⟨us, hus, ⟨hk, fun _ => rfl, run_firstCells_some w es m _ m cap us hul (fun j v hv => by rw [Addr.add_mid]; exact hr j v hv), run_firstCells_some w.drew es m _ m cap us hul (fun j v hv => by rw [Addr.add_mid]; simpa using hr j v hv), hul, hus.flat hfl⟩⟩
theorem run_append_none {t tx ty e : TypeId} {i : TypeInfo} (ht : P.underlying t = some (.slice e)) (hi : P.info? e = some i) {base : Option Addr} {sLen sCap : Nat} (hle : sLen ≤ sCap) {x : Value} (hs : Src P i.size tx x 0 [] w) :
    (Builtin.append_ #[t, tx] ty #[.slice base sLen sCap, x]).run P w = .ok (.slice base sLen sCap) w := by
  rcases hs.kind with ⟨e', hk⟩ | hk <;> cases base <;> simp [Builtin.append_, run_underlying ht, run_underlying hk, sizeOf, typeInfo, hi, hs.len, hle, hs.cells, storeCells]
theorem fresh_sound (r : Rel nb ι H w) {e size need cap : Nat} {ty : Option Nat} (hty : ∀ t, ty = some t → t = e) {cs : List AV} {us : List Value} {z : Array Value} {w' : World} (hcs : VRels nb ι cs us) (hsz : z.size = size) (hs0 : size ≠ 0) (hcap : need ≤ cap)
    (hlen : us.length = need * size) (hw : Turned w w' (w.heap.push (.cells (us.toArray ++ Builtin.zeroCells z (cap - need)) e))) :
    ∃ ι', VRel nb ι' (H.fresh size need ty cs).1 (.slice (some ⟨w.heap.size, 0, none⟩) need cap) ∧ Rel nb ι' (H.fresh size need ty cs).2 w' ∧ Ext nb ι H w ι' (H.fresh size need ty cs).2 w' := by
  have hnone : ι H.n = none := by
    cases h : ι H.n with
    | none => rfl
    | some q => have := (r.dom _ _ h).2.2; omega
  have hnone' : (H.push (.row cs size false ty)).t.get H.n = some (.row cs size false ty) := by simp [Heap.push, T.get_set]
  have hmul : cap * size = need * size + (cap - need) * size := by rw [← Nat.add_mul]; congr 1; omega
  have hborn : Born nb ι ⟨w.heap.size, 0, cap * size⟩ (.row cs size false ty) (.cells (us.toArray ++ Builtin.zeroCells z (cap - need)) e) := by
    refine ⟨_, _, _, rfl, fun i x hx => ?_, fun _ i _ h => by simp at h, fun _ => ?_, fun t ht => ⟨rfl, hty t ht, fun h => absurd h hs0⟩⟩
    · obtain ⟨v, hv, hr⟩ := hcs.get i x hx
      have hlt := (List.getElem?_eq_some_iff.1 hv).1
      refine ⟨v, ?_, hr⟩
      simp only [Nat.zero_add]
      rw [Array.getElem?_append_left (by simpa using hlt)]
      simpa using hv
    · simp only [Array.size_append, List.size_toArray, size_zeroCells, hlen, hsz]
      omega
  refine ⟨ι.put H.n ⟨w.heap.size, 0, cap * size⟩, ?_, ?_, ?_⟩
  · simp only [Heap.fresh, VRel, locOf]
    exact ⟨_, cap, Emb.put_same, rfl, hcap, .inr (by simp)⟩
  · exact (r.push _).born hnone hnone' hw.heap rfl hborn
  · exact Ext.born r hnone hw rfl (Nat.le_refl _) (by simp [Heap.fresh, Heap.push]) (fun j hj => by simp only [Heap.fresh, Heap.push, T.get_set]; rw [if_neg (by omega)]) rfl
theorem append_sound (r : Rel nb ι H w) {t tx ty e : TypeId} {i : TypeInfo} {zs : List AV} {s z : AV} {sv xv : Value} {n : Nat} {cs : List AV} {news : List Value} {H' : Heap} (ht : P.underlying t = some (.slice e)) (hi : P.info? e = some i)
    (hzs : zeroT P e = some zs) (hs : VRel nb ι s sv) (hns : VRels nb ι cs news) (hsrc : Src P i.size tx xv n news w) (h : appendOf e i.size i.bytes H s (n, cs) = some (z, H')) :
    ∃ v w' ι', (Builtin.append_ #[t, tx] ty #[sv, xv]).run P w = .ok v w' ∧ VRel nb ι' z v ∧ Rel nb ι' H' w' ∧ Ext nb ι H w ι' H' w' := by
  obtain ⟨i', zv, hi', hzv, hsz, _⟩ := zeroT_spec hzs
  obtain rfl : i' = i := by rw [hi] at hi'; simpa using hi'.symm
  unfold appendOf at h
  split at h
  · cases h
  rename_i hcond
  have hs0 : i'.size ≠ 0 := fun e => hcond (.inl e)
  have hnl : news.length = n * i'.size := hsrc.newsLen
  have hcl : cs.length = n * i'.size := by rw [← hns.length]; exact hnl
  have hnil : n = 0 → news = [] := fun e => by subst e; exact List.eq_nil_of_length_eq_zero (by simpa using hnl)
  split at h
  · -- nils
    simp only [VRel] at hs; subst hs
    by_cases hn : n = 0
    · simp only [hn, if_true, Option.some.injEq, Prod.mk.injEq] at h
      obtain ⟨rfl, rfl⟩ := h
      have he := hnil hn
      subst hn; subst he
      exact ⟨_, w, ι, run_append_none ht hi (Nat.le_refl _) hsrc, by simp only [VRel], r, Ext.refl⟩
    · simp only [hn, if_false] at h
      split at h
      case isFalse => cases h
      rename_i hb
      simp only [Option.some.injEq] at h
      have hfit : Builtin.nextslicecap (0 + n) 0 * i'.bytes ≤ 281474976710656 := growslice_fits (by omega) (by simp; omega)
      have hrun := run_append_grow_src (P := P) w t tx ty e i' zv ht hi hzv none 0 0 [] (by simp [Builtin.firstCells]) xv n news hsrc (by omega) (by omega) hfit
      obtain ⟨ι', h1, h2, h3⟩ := fresh_sound r (e := e) (ty := some e) (fun t ht => by simpa using ht.symm) (need := n) (cap := grownCap w (0 + n) 0 e) (w' := w.drew.alloc (.cells (news.toArray ++ Builtin.zeroCells zv.cells (grownCap w (0 + n) 0 e - n)) e)) hns hsz hs0 (by have := grownCap_ge w (0 + n) 0 e; omega) hnl rfl
      rw [h] at h1 h2 h3
      exact ⟨_, _, ι', hrun, by simpa using h1, by simpa using h2, by simpa using h3⟩
  · -- emp
    split at h
    case isFalse => cases h
    rename_i hn
    simp only [] at hn
    simp only [Option.some.injEq, Prod.mk.injEq] at h
    obtain ⟨rfl, rfl⟩ := h
    have he := hnil hn
    subst hn; subst he
    have hs' := hs
    simp only [VRel] at hs
    obtain ⟨q, cap, rfl⟩ := hs
    exact ⟨_, w, ι, run_append_none ht hi (Nat.zero_le _) hsrc, hs', r, Ext.refl⟩
  · rename_i p o m c
    have hs' := hs
    simp only [VRel] at hs
    obtain ⟨l, cap, hl, rfl, hmc, hcap⟩ := hs
    by_cases hn : n = 0
    · simp only [hn, if_true, Option.some.injEq, Prod.mk.injEq] at h
      obtain ⟨rfl, rfl⟩ := h
      have he := hnil hn
      subst hn; subst he
      exact ⟨_, w, ι, run_append_none ht hi hmc hsrc, hs', r, Ext.refl⟩
    simp only [hn, if_false] at h
    split at h
    case isFalse => cases h
    rename_i hb
    obtain ⟨hb1, hb2⟩ := hb
    have hgrow : ∀ {H0 : Heap} {ty0 : Option Nat} (hty0 : ∀ t, ty0 = some t → t = e) (r0 : Rel nb ι H0 w) (olds : List AV) (us : List Value), VRels nb ι olds us → us.length = m * i'.size → w.rangeAt l.blk (l.off + o) us → cap < m + n →
        ∃ v w' ι', (Builtin.append_ #[t, tx] ty #[.slice (some ⟨l.blk, l.off + o, none⟩) m cap, xv]).run P w = .ok v w' ∧ VRel nb ι' (H0.fresh i'.size (m + n) ty0 (olds ++ cs)).1 v ∧ Rel nb ι' (H0.fresh i'.size (m + n) ty0 (olds ++ cs)).2 w' ∧ Ext nb ι H0 w ι' (H0.fresh i'.size (m + n) ty0 (olds ++ cs)).2 w' := by
      intro H0 ty0 hty0 r0 olds us hus hul hrange hlt
      have hfit : Builtin.nextslicecap (m + n) cap * i'.bytes ≤ 281474976710656 := growslice_fits hlt (by omega)
      have hold : (Builtin.firstCells i'.size m (.slice (some ⟨l.blk, l.off + o, none⟩) m cap)).run P w.drew = .ok us.toArray w.drew :=
        run_firstCells_some w.drew i'.size m _ m cap us hul (fun j v hv => by rw [Addr.add_mid]; simpa using hrange j v hv)
      have hrun := run_append_grow_src (P := P) w t tx ty e i' zv ht hi hzv (some ⟨l.blk, l.off + o, none⟩) m cap us hold xv n news hsrc hlt (by omega) hfit
      obtain ⟨ι', h1, h2, h3⟩ := fresh_sound r0 (e := e) hty0 (need := m + n) (cap := grownCap w (m + n) cap e) (w' := w.drew.alloc (.cells ((us ++ news).toArray ++ Builtin.zeroCells zv.cells (grownCap w (m + n) cap e - (m + n))) e)) (hus.append hns) hsz hs0 (grownCap_ge w (m + n) cap e) (by rw [List.length_append, hul, hnl, Nat.add_mul]) rfl
      exact ⟨_, _, ι', hrun, h1, h2, h3⟩
    cases c with
    | fix c e0 =>
      simp only [capRel] at hcap
      subst hcap
      simp only [] at h
      split at h
      · rename_i hroom
        simp only [Option.map_eq_some_iff, Prod.mk.injEq] at h
        obtain ⟨H1, hst, rfl, rfl⟩ := h
        obtain ⟨g1, g2, g3⟩ := st_sound r hl hns hst
        have hrun := run_append_room_src (P := P) w t tx ty e i' ht hi l.blk (l.off + o) m cap xv n news hsrc hroom (fun j hj => by have := (g1 j hj).1; rw [show l.off + (o + m * i'.size) + j = l.off + o + m * i'.size + j by omega] at this; exact this)
          (fun j hj => by have := (g1 j hj).2; rw [show l.off + (o + m * i'.size) + j = l.off + o + m * i'.size + j by omega] at this; exact this)
        rw [show l.off + o + m * i'.size = l.off + (o + m * i'.size) by omega] at hrun
        exact ⟨_, _, ι, hrun, by simp only [VRel, capRel]; exact ⟨l, cap, hl, rfl, hroom, rfl⟩, g2, g3⟩
      · rename_i hroom
        simp only [Option.map_eq_some_iff] at h
        obtain ⟨olds, hol, h⟩ := h
        obtain ⟨_, us, hul, hrange, hus⟩ := ldn_sound r hl hol
        obtain ⟨v, w', ι', h1, h2, h3, h4⟩ := hgrow (ty0 := some e) (fun t ht => by simpa using ht.symm) r olds us hus hul hrange (by omega)
        rw [h] at h2 h3 h4
        exact ⟨v, w', ι', h1, h2, h3, h4⟩
    | gro es =>
      simp only [] at h
      split at h
      case isFalse => cases h
      rename_i hes
      subst hes
      split at h
      · cases h
      · cases h
      rename_i k
      split at h
      case h_2 => cases h
      rename_i bs es' ty0 hget
      split at h
      case isFalse => cases h
      rename_i hc
      obtain ⟨rfl, hend⟩ := hc
      simp only [Option.some.injEq] at h
      simp only [locOf] at hl
      simp only [capRel] at hcap
      have hcap' : o + cap * i'.size ≤ l.lim := hcap.resolve_left hs0
      obtain ⟨g1, g2, g3, g4⟩ := r.row k l bs i'.size false ty0 hl hget
      by_cases hroom : m + n ≤ cap
      · -- in place
        have hmul : (m + n) * i'.size ≤ cap * i'.size := Nat.mul_le_mul_right _ hroom
        rw [Nat.add_mul] at hmul
        have hex : ∀ j, j < news.length → ∃ v, w.cell? ⟨l.blk, l.off + (o + m * i'.size) + j, none⟩ = some v := fun j hj => by
          obtain ⟨v, hv⟩ := g3 hs0 (o + m * i'.size + j) (by omega)
          exact ⟨v, by rw [Nat.add_assoc]; exact hv⟩
        have hbl : (bs.take (o + m * i'.size)).length = o + m * i'.size := by rw [List.length_take]; omega
        have hrun := run_append_room_src (P := P) w t tx ty e i' ht hi l.blk (l.off + o) m cap xv n news hsrc hroom
          (fun j hj => by obtain ⟨v, hv⟩ := hex j hj; rw [show l.off + (o + m * i'.size) + j = l.off + o + m * i'.size + j by omega] at hv; rw [hv]; rfl)
          (fun j hj => by obtain ⟨v, hv⟩ := hex j hj; rw [show l.off + (o + m * i'.size) + j = l.off + o + m * i'.size + j by omega] at hv; exact g2 rfl _ v hv)
        rw [show l.off + o + m * i'.size = l.off + (o + m * i'.size) by omega] at hrun
        obtain ⟨q1, q2⟩ := r.write (H' := H.put k (.row (bs.take (o + m * i'.size) ++ cs) i'.size false ty0)) (cs' := bs.take (o + m * i'.size) ++ cs) hl hget (fun h => absurd h hs0) (fun j hj => by obtain ⟨v, hv⟩ := hex j hj; rw [hv]; rfl) (fun j => by simp only [Heap.put, T.get_set]) rfl rfl (fun j x hx => by
          by_cases hj : j < o + m * i'.size
          · rw [List.getElem?_append_left (by omega), List.getElem?_take, if_pos hj] at hx
            exact .inr ⟨hx, by omega⟩
          · rw [List.getElem?_append_right (by omega), hbl] at hx
            obtain ⟨u, hu, hr⟩ := hns.get _ _ hx
            exact .inl ⟨j - (o + m * i'.size), u, by omega, hu, hr⟩)
        obtain ⟨q3, q4⟩ := q1.rename (k := k) (o := o) (es := i'.size) (cs := bs.take (o + m * i'.size) ++ cs) (H' := ((H.del k).fresh i'.size (m + n) (tyKeep e o ty0) ((bs.drop o).take (m * i'.size) ++ cs)).2) (ty := ty0) (ty2 := tyKeep e o ty0) hl (by simp [Heap.put, T.get_set]) (fun t ht => by obtain ⟨a1, a2, a3⟩ := tyKeep_spec ht; exact ⟨a2, by rw [a1]; exact a3⟩) (by simp; omega) (fun _ => by omega) (fun j => by
            simp only [Heap.fresh, Heap.push, Heap.del, Heap.put, T.get_set, T.get_del]
            rw [List.drop_append_of_le_length (by omega), List.drop_take, Nat.add_sub_cancel_left]
            by_cases e1 : j = H.n
            · rw [if_pos e1, if_pos e1]
            · rw [if_neg e1, if_neg e1]
              by_cases e2 : j = k
              · rw [if_pos e2, if_pos e2]
              · rw [if_neg e2, if_neg e2, if_neg e2]) rfl rfl
        have e1 := congrArg Prod.fst h
        have e2 := congrArg Prod.snd h
        simp only [] at e1 e2
        rw [← e1, ← e2]
        refine ⟨_, _, _, hrun, ?_, q3, q2.trans q4⟩
        simp only [Heap.fresh, VRel, locOf, Heap.del]
        refine ⟨_, cap, Emb.put_same, by simp, hroom, .inr ?_⟩
        simp only []
        omega
      · obtain ⟨us, hus, hul, hrange⟩ : ∃ us : List Value, VRels nb ι ((bs.drop o).take (m * i'.size)) us ∧ us.length = m * i'.size ∧ w.rangeAt l.blk (l.off + o) us := by
          have hld : H.ldn (.new k) o (m * i'.size) = some ((bs.drop o).take (m * i'.size)) := by
            have hlen : ((bs.drop o).take (m * i'.size)).length = m * i'.size := by rw [List.length_take, List.length_drop]; omega
            simp only [Heap.ldn, Heap.cells, hget, Obj.cells, Option.bind_some, hlen, if_true]
          obtain ⟨_, us, hul, hrange, hus⟩ := ldn_sound (p := .new k) r hl hld
          exact ⟨us, hus, hul, hrange⟩
        obtain ⟨v, w', ι', h1, h2, h3, h4⟩ := hgrow (ty0 := tyKeep e o ty0) (fun t ht => (tyKeep_spec ht).1) (r.del k) ((bs.drop o).take (m * i'.size)) us hus hul hrange (by omega)
        have e1 := congrArg Prod.fst h
        have e2 := congrArg Prod.snd h
        simp only [] at e1 e2
        rw [← e1, ← e2]
        refine ⟨v, w', ι', h1, h2, h3, ⟨h4.le, h4.size, h4.kept, h4.rng, h4.fresh, h4.n, fun j hj hjn => ?_, h4.base, h4.env, h4.frz⟩⟩
        rw [h4.unborn j hj hjn]
        simp only [Heap.del, T.get_del]
        rw [if_neg]
        rintro rfl
        rw [hl] at hjn; cases hjn
  · -- content
    rename_i es0 m f olds
    have hs' := hs
    simp only [VRel] at hs
    obtain ⟨g0, a0, cap, rfl, g1, g2, g3, g4⟩ := hs
    by_cases hn : n = 0
    · simp only [hn, if_true, Option.some.injEq, Prod.mk.injEq] at h
      obtain ⟨rfl, rfl⟩ := h
      have he := hnil hn
      subst hn; subst he
      exact ⟨_, w, ι, run_append_none ht hi g1 hsrc, hs', r, Ext.refl⟩
    simp only [hn, if_false] at h
    split at h
    case isFalse => cases h
    rename_i hb
    obtain ⟨hes, rfl, hb1, hb2⟩ := hb
    simp only [Option.some.injEq] at h
    obtain rfl := g2 rfl
    have hfit : Builtin.nextslicecap (cap + n) cap * i'.bytes ≤ 281474976710656 := growslice_fits (by omega) (by omega)
    obtain ⟨us, hus, hul, hold⟩ : ∃ us : List Value, VRels nb ι olds us ∧ us.length = cap * i'.size ∧ (Builtin.firstCells i'.size cap (.slice a0 cap cap)).run P w.drew = .ok us.toArray w.drew := by
      by_cases hm : cap = 0
      · subst hm
        simp only [Nat.zero_mul] at g0
        obtain rfl := List.eq_nil_of_length_eq_zero g0
        refine ⟨[], by simp [VRels], by simp, ?_⟩
        cases a0 with
        | none => simp [Builtin.firstCells]
        | some q => simp [Builtin.firstCells, loadCells, loadCellsFrom]
      · obtain rfl := hes.resolve_right hm
        obtain ⟨b, o, us, rfl, k1, c0, k2, k3⟩ := g4 hm
        have hul : us.length = cap * i'.size := by rw [k1.length]; exact g0
        refine ⟨us, VRels.mono ι.bare_le _ _ k1, hul, run_firstCells_some w.drew i'.size cap _ cap cap us hul (fun j v hv => by rw [Addr.add_mid]; simpa using r.held ⟨c0, k2, k3⟩ j v hv)⟩
    have hrun := run_append_grow_src (P := P) w t tx ty e i' zv ht hi hzv a0 cap cap us hold xv n news hsrc (by omega) (by omega) hfit
    obtain ⟨ι', h1, h2, h3⟩ := fresh_sound r (e := e) (ty := some e) (fun t ht => by simpa using ht.symm) (need := cap + n) (cap := grownCap w (cap + n) cap e) (w' := w.drew.alloc (.cells ((us ++ news).toArray ++ Builtin.zeroCells zv.cells (grownCap w (cap + n) cap e - (cap + n))) e)) (hus.append hns) hsz hs0 (grownCap_ge w (cap + n) cap e) (by rw [List.length_append, hul, hnl, Nat.add_mul]) rfl
    rw [h] at h1 h2 h3
    exact ⟨_, _, ι', hrun, h1, h2, h3⟩
  · cases h
/-! ### A step of an iterator over a string -/
theorem decode_sound {b : ByteArray} {s : List Nat} (hb : bytesRel s b) (pos : Nat) : Utf8.decode b pos = decodeAt (s.drop pos) := by
  unfold bytesRel at hb
  have hl : b.size = s.length := by rw [Lib.size_eq, ← hb, List.length_map]
  have hat : ∀ k, (b.get! (pos + k)).toNat = (s.drop pos).getD k 0 := fun k => by
    rw [← hb, List.getD_eq_getElem?_getD, List.getElem?_drop, List.getElem?_map]
    show (b.data[pos + k]!).toNat = _
    rw [getElem!_def]
    cases h : b.data[pos + k]? with
    | none => simp [h]; rfl
    | some v => simp [h]
  have hcont : ∀ k, (decide (pos + k < b.size) : Bool) = decide (k < (s.drop pos).length) := fun k => by
    rw [hl, List.length_drop]
    by_cases h : pos + k < s.length
    · simp [h]; omega
    · simp [h]; omega
  unfold Utf8.decode decodeAt
  simp only [hat, hcont]
theorem Rel.step {k : Nat} {l : Loc} {s : List Nat} {pos pos' : Nat} {b : ByteArray} {w' : World} (r : Rel nb ι H w) (hk : ι k = some l) (hget : H.t.get k = some (.iter s pos)) (hb : bytesRel s b)
    (ht : Turned w w' (w.heap.setIfInBounds l.blk (.stringIter b pos'))) : Rel nb ι (H.put k (.iter s pos')) w' ∧ Ext nb ι H w ι (H.put k (.iter s pos')) w' := by
  have hw := ht.heap
  have hd := r.dom k l hk
  have hoth : ∀ c, c ≠ l.blk → w'.heap[c]? = w.heap[c]? := fun c hc => by rw [hw, Array.getElem?_setIfInBounds_ne (Ne.symm hc)]
  have hsz : w'.heap.size = w.heap.size := by rw [hw]; simp
  constructor
  · refine ⟨by rw [hsz]; exact r.nbw, ?_, ?_, ?_, ?_, ?_, ?_, ?_, nb.keep w _ (fun b hb => hoth b (by have := (r.dom k l hk).1; omega)) r.inv⟩
    · intro c bs hc
      refine ⟨(r.old c bs hc).1, fun i x hx => ?_⟩
      obtain ⟨v, hv, hr⟩ := (r.old c bs hc).2 i x hx
      have hne : c ≠ l.blk := by have := (r.old c bs hc).1; omega
      exact ⟨v, by rw [cell?_of_heap (hoth c hne)]; exact hv, hr⟩
    · intro j q ds es' fz ty' hj hoj
      simp only [Heap.put, T.get_set] at hoj
      by_cases hjk : j = k
      · rw [if_pos hjk] at hoj; simp at hoj
      · rw [if_neg hjk] at hoj
        have hne : q.blk ≠ l.blk := fun e => hjk (r.inj j k q l _ _ hj hk hoj hget e)
        obtain ⟨h1, h2, h3, h4⟩ := r.row j q ds es' fz ty' hj hoj
        refine ⟨fun i x hx => ?_, fun hf i v hv => ?_, fun he i hi => ?_, h4.of_heap (hoth _ hne)⟩
        · obtain ⟨v, hv, hr⟩ := h1 i x hx
          exact ⟨v, by rw [cell?_of_heap (hoth _ hne)]; exact hv, hr⟩
        · rw [cell?_of_heap (hoth _ hne)] at hv
          rw [frozen?_of_heap (hoth _ hne)]
          exact h2 hf i v hv
        · obtain ⟨v, hv⟩ := h3 he i hi
          exact ⟨v, by rw [cell?_of_heap (hoth _ hne)]; exact hv⟩
    · intro j q s' p' hj hoj
      simp only [Heap.put, T.get_set] at hoj
      by_cases hjk : j = k
      · subst hjk
        rw [if_pos rfl] at hoj
        simp only [Option.some.injEq, Obj.iter.injEq] at hoj
        obtain ⟨rfl, rfl⟩ := hoj
        obtain rfl : q = l := by rw [hk] at hj; simpa using hj.symm
        refine ⟨(r.iter j q s pos hj hget).1, b, hb, ?_⟩
        rw [hw, Array.getElem?_setIfInBounds_self_of_lt hd.2.1]
      · rw [if_neg hjk] at hoj
        have hne : q.blk ≠ l.blk := fun e => hjk (r.inj j k q l _ _ hj hk hoj hget e)
        obtain ⟨h0, b', hb1, hb2⟩ := r.iter j q s' p' hj hoj
        exact ⟨h0, b', hb1, by rw [hoth _ hne]; exact hb2⟩
    · intro j q hj
      rw [hsz]
      exact r.dom j q hj
    · intro j j' q q' o1 o2 hj hj' h1 h2 hb
      simp only [Heap.put, T.get_set] at h1 h2
      have f : ∀ (j : Nat) (o1 : Lite.Obj), (if j = k then some (Obj.iter s pos') else H.t.get j) = some o1 → ∃ o2, H.t.get j = some o2 := fun j o1 h => by
        by_cases e : j = k
        · subst e; exact ⟨_, hget⟩
        · rw [if_neg e] at h; exact ⟨_, h⟩
      obtain ⟨p1, e1⟩ := f j o1 h1
      obtain ⟨p2, e2⟩ := f j' o2 h2
      exact r.inj j j' q q' p1 p2 hj hj' e1 e2 hb
    · intro j o1 h1
      simp only [Heap.put, T.get_set] at h1 ⊢
      by_cases e : j = k
      · subst e; exact hd.2.2
      · rw [if_neg e] at h1; exact r.lt j o1 h1
    · intro b0 c hc
      obtain ⟨g1, g2, g3⟩ := r.fz b0 c hc
      have hne : b0 ≠ l.blk := fun e => by
        obtain ⟨_, _, _, e2⟩ := g3 k l _ hk hget e.symm
        simp at e2
      refine ⟨by rw [hsz]; exact g1, fun i => by rw [cell?_of_heap (hoth b0 hne)]; exact g2 i, fun j q o1 hj hoj hb => ?_⟩
      simp only [Heap.put, T.get_set] at hoj
      by_cases e : j = k
      · subst e
        rw [hk] at hj
        simp only [Option.some.injEq] at hj
        subst hj
        exact absurd hb.symm hne
      · rw [if_neg e] at hoj
        exact g3 j q o1 hj hoj hb
  · refine ⟨Emb.le_refl ι, by rw [hsz]; exact Nat.le_refl _, fun c hc hcc => ?_, fun j q hj _ => ⟨j, q, hj, rfl⟩, fun _ _ h => .inl h, Nat.le_refl _, fun j _ hj => ?_, rfl, ht.env, fun _ _ h => .inl h⟩
    · refine hoth c ?_
      rcases hcc with h | h
      · omega
      · exact fun e => h k l hk e.symm
    · simp only [Heap.put, T.get_set]
      rw [if_neg]
      rintro rfl
      rw [hk] at hj; cases hj
/-! ### All together -/
theorem wop_sound (hg : P.globals.size ≤ nb) (hf : FRel nb ι fr a.tmps) (r : Rel nb ι H w) {o : Oper} {q : WOp} {z : AV} {H' : Heap} (hs : slimW P nt o.op = some q) (hz : q.val fr H = some (z, H')) :
    Writes1 P nb ι H w (execOp a.eval o) z H' := by
  have X : ∀ {x : Operand} {y : SX}, slimX P nt x = some y → VRel nb ι (y.ev fr) (a.eval x) := fun h => slimX_sound hg hf h
  unfold slimW at hs
  split at hs
  case h_1 t ad x hop =>
    simp only [Option.bind_eq_some_iff, Option.map_eq_some_iff] at hs
    obtain ⟨ad', ha, x', hx, size, hsize, rfl⟩ := hs
    simp only [WOp.val, Option.bind_eq_some_iff] at hz
    obtain ⟨vs, hvs, hz⟩ := hz
    split at hz
    case isFalse => cases hz
    rename_i hc
    obtain ⟨hlen, hflat⟩ := hc
    simp only [Option.bind_eq_some_iff, Option.map_eq_some_iff, Prod.mk.injEq] at hz
    obtain ⟨q, hq, H1, hst, rfl, rfl⟩ := hz
    obtain ⟨l, hl, hav⟩ := (X ha).asPtr hq
    have hus := (X hx).cells hvs
    obtain ⟨g1, g2, g3⟩ := st_sound r hl hus hst
    have hul : (a.eval x).cells.size = size := by have := hus.length; simp at this; omega
    have hsc := run_storeCells_cells (P := P) l.blk (l.off + q.2) (a.eval x).cells.toList 0 w (fun j hj => by simpa using (g1 j hj).1) (fun j hj => by simpa using (g1 j hj).2) (hus.flat hflat)
    simp only [Nat.add_zero] at hsc
    refine ⟨undef, _, ι, .skip, ?_, .inr ⟨rfl, rfl⟩, by simp only [VRel], g2, g3⟩
    simp [execOp, hop, hav, Instr.storeAt, Instr.sureAddr, storeVar, run_sizeOf hsize, hul, hsc]
  case h_2 it isS hop =>
    cases isS
    · cases hs
    simp only [cond_true, Option.map_eq_some_iff] at hs
    obtain ⟨y, hy, rfl⟩ := hs
    have hx := X hy
    simp only [WOp.val] at hz
    split at hz
    case h_2 => cases hz
    rename_i k hp
    rw [hp] at hx
    simp only [VRel, locOf] at hx
    obtain ⟨l, hl, hv⟩ := hx
    split at hz
    case h_2 => cases hz
    rename_i s pos hget
    obtain ⟨h0, b, hb1, hb2⟩ := r.iter k l s pos hl hget
    have hbl : b.size = s.length := by unfold bytesRel at hb1; rw [Lib.size_eq, ← hb1, List.length_map]
    split at hz
    · rename_i hlt
      simp only [Option.some.injEq, Prod.mk.injEq] at hz
      obtain ⟨rfl, rfl⟩ := hz
      have hdec := decode_sound hb1 pos
      obtain ⟨g1, g2⟩ := r.step (w' := { w with heap := w.heap.setIfInBounds l.blk (.stringIter b (pos + (decodeAt (s.drop pos)).2)) }) (pos' := pos + (decodeAt (s.drop pos)).2) hl hget hb1 rfl
      refine ⟨.tuple #[.bool true, .int .i64 pos, .int .i32 (decodeAt (s.drop pos)).1], _, ι, _, ?_, .inl rfl, by simp [VRel, VRels], g1, g2⟩
      simp [execOp, hop, hv, h0, Instr.next, getObj, setObj, Sem.run, hb2, hbl, hlt, hdec, goInt]
    · rename_i hlt
      simp only [Option.some.injEq, Prod.mk.injEq] at hz
      obtain ⟨rfl, rfl⟩ := hz
      refine ⟨.tuple #[.bool false], w, ι, _, ?_, .inl rfl, by simp [VRel, VRels], r, Ext.refl⟩
      simp [execOp, hop, hv, h0, Instr.next, getObj, Sem.run, hb2, hbl, hlt]
  case h_3 args argTypes hop =>
    split at hs
    case h_2 => cases hs
    rename_i s x t u hla hlt
    simp only [Option.bind_eq_some_iff] at hs
    obtain ⟨s', hs1, x', hx, hs⟩ := hs
    have key : ∀ e, P.underlying t = some (.slice e) → ((∃ e', P.underlying u = some (.slice e')) ∨ P.underlying u = some .string) → ((P.info? e).bind fun i => (zeroT P e).bind fun zs =>
        if i.bytes ≤ 1048576 then some (WOp.append e i.size i.bytes s' x') else none) = some q → Writes1 P nb ι H w (execOp a.eval o) z H' := by
      intro e hu hk hq
      simp only [Option.bind_eq_some_iff] at hq
      obtain ⟨i, hi, zs, hzs, hq⟩ := hq
      split at hq
      case isFalse => cases hq
      simp only [Option.some.injEq] at hq
      subst hq
      simp only [WOp.val, Option.bind_eq_some_iff] at hz
      obtain ⟨⟨n, cs⟩, htk, hz⟩ := hz
      have hfl : cs.all AV.flat = true := by
        unfold appendOf at hz
        split at hz
        · cases hz
        · rename_i hc
          cases hh : cs.all AV.flat with
          | true => rfl
          | false => exact absurd (.inr hh) hc
      obtain ⟨news, hns, hsrc⟩ := taken_sound r (tx := u) hk (X hx) htk hfl
      obtain ⟨v, w', ι', h1, h2, h3, h4⟩ := append_sound (ty := o.type) r hu hi hzs (X hs1) hns hsrc hz
      obtain ⟨args⟩ := args
      obtain ⟨argTypes⟩ := argTypes
      change args = _ at hla
      change argTypes = _ at hlt
      subst hla; subst hlt
      exact ⟨v, w', ι', _, by unfold execOp; rw [hop]; simp [resolve, invoke, builtin, h1], .inl rfl, h2, h3, h4⟩
    split at hs
    · rename_i e e' h1 h2
      exact key e h1 (.inl ⟨e', h2⟩) hs
    · rename_i e h1 h2
      exact key e h1 (.inr h2) hs
    · cases hs
  case h_4 => cases hs
end Go.Lite

/-
  One operation, in the model and by the interpreter.
-/
namespace Go.Lite
open Go
variable {P : Program} {nb : NB} {ι : Emb} {H : Heap} {w : World} {fr : Fr} {a : Act} {nt : Nat}
def CallPost (nb : NB) (ι : Emb) (H : Heap) (w : World) (out : Out × Heap) : Ending → World → Prop
  | .returned v, w' => ∃ ι' x, out.1 = .ret x ∧ VRel nb ι' x v ∧ Rel nb ι' out.2 w' ∧ Ext nb ι H w ι' out.2 w'
  | .panicked c, w' => ∃ ι' x v, out.1 = .panic x ∧ c = [{ v, recovered := false }] ∧ VRel nb ι' x v ∧ Rel nb ι' out.2 w' ∧ Ext nb ι H w ι' out.2 w'
  | .outgrown, _ => False
def CallsOk (P : Program) (nb : NB) (call : CallF) : Prop :=
  ∀ (f : FuncId) (xs : List AV) (args : Array Value) (ι : Emb) (H : Heap) (w : World) (out : Out × Heap), call f xs H = some out → VRels nb ι xs args.toList → Rel nb ι H w →
    (∀ w', (callFunc f args).run P w' = .ok (.enter f args) w') ∧ Calls P f args w (CallPost nb ι H w out)
theorem sop_step {call : CallF} (hcall : CallsOk P nb call) (hg : P.globals.size ≤ nb) (hf : FRel nb ι fr a.tmps) (r : Rel nb ι H w) {o : Oper} {q : SOp} {kk : AV → Heap → R} {out : Out × Heap}
    {next : Act → World → Prop} {Q : Exit → Act → World → Prop} (hs : slimOp P nt o.op = some q) (h : q.run call fr H kk = some out)
    (hnext : ∀ (v : Value) (x : AV) (ι' : Emb) (H' : Heap) (w' : World), VRel nb ι' x v → Rel nb ι' H' w' → Ext nb ι H w ι' H' w' → kk x H' = some out → next (a.put o.dst v) w')
    (hpanic : ∀ (v : Value) (x : AV) (ι' : Emb) (w' : World), out.1 = .panic x → VRel nb ι' x v → Rel nb ι' out.2 w' → Ext nb ι H w ι' out.2 w' → Q (.panic [{ v, recovered := false }]) a w') :
    o.wp P a w next Q := by
  unfold Oper.wp
  unfold slimOp at hs
  split at hs
  · rename_i po hpo
    simp only [Option.some.injEq] at hs; subst hs
    simp only [SOp.run, Option.bind_eq_some_iff] at h
    obtain ⟨z, hz, hk⟩ := h
    obtain ⟨v, w', hrun, hh, hv⟩ := pop_sound hg hf r hpo hz
    rw [hrun, Oper.upon_value]
    exact hnext v z ι H w' hv (r.same hh.heap) (Ext.same hh) hk
  · split at hs
    · rename_i ao hao
      simp only [Option.some.injEq] at hs; subst hs
      simp only [SOp.run, Option.bind_eq_some_iff] at h
      obtain ⟨⟨ob, z⟩, hz, hk⟩ := h
      obtain ⟨v, w', obw, l, hrun, hh, hl, hb, hv⟩ := aop_sound (w := w) hg hf hao hz
      have hnone : ι H.n = none := by
        cases e : ι H.n with
        | none => rfl
        | some q => have := (r.dom _ _ e).2.2; omega
      rw [hrun, Oper.upon_value]
      have hgo : (H.push ob).t.get H.n = some ob := by simp [Heap.push, T.get_set]
      obtain ⟨q1, q2, q3⟩ := ((r.push ob).born hnone hgo hh.heap hl hb).added hgo
      refine hnext v z (ι.add H.n l ob w') (H.push ob) w' (hv _ Emb.add_same (Emb.le_add hnone) q3) q1 (Ext.trans ?_ q2) hk
      · exact Ext.born r hnone hh hl (Nat.le_refl _) (by simp [Heap.push]) (fun j hj => by simp only [Heap.push, T.get_set]; rw [if_neg (by omega)]) rfl
    · split at hs
      · rename_i wo hwo
        simp only [Option.some.injEq] at hs; subst hs
        simp only [SOp.run, Option.bind_eq_some_iff] at h
        obtain ⟨⟨z, H'⟩, hz, hk⟩ := h
        obtain ⟨v, w', ι', q, hrun, hq, hv, hr, he⟩ := wop_sound hg hf r hwo hz
        rw [hrun]
        rcases hq with rfl | ⟨rfl, rfl⟩
        · rw [Oper.upon_value]; exact hnext v z ι' H' w' hv hr he hk
        · rw [Oper.upon_skip]; exact hnext undef z ι' H' w' hv hr he hk
      · split at hs
        · rename_i f args _ hop
          simp only [Option.bind_eq_some_iff, Option.map_eq_some_iff] at hs
          obtain ⟨f', hf', as, has, rfl⟩ := hs
          simp only [SOp.run] at h
          have hfv := slimX_sound (a := a) hg hf hf'
          have hasv := slimXs_sound (a := a) hg hf has
          unfold callV at h
          cases hfe : f'.ev fr <;> rw [hfe] at h <;> simp only [bindR, reduceCtorEq] at h
          rename_i fn caps
          rw [hfe] at hfv
          simp only [VRel] at hfv
          obtain ⟨cs, hfe', hcs⟩ := hfv
          cases hc : call fn (as.map (·.ev fr) ++ caps) H with
          | none => rw [hc] at h; cases h
          | some res =>
            rw [hc] at h
            obtain ⟨h1, h2⟩ := hcall fn _ (args.map a.eval ++ cs) ι H w res hc (by simpa using hasv.append hcs) r
            have hrun : (execOp a.eval o).run P w = .ok (.enter fn (args.map a.eval ++ cs)) w := by
              have := h1 w
              simp [execOp, hop, resolve, hfe', Deferred.ofValue, invoke, this]
            rw [hrun, Oper.upon_enter]
            refine Calls.mono h2 fun e w' he => ?_
            obtain ⟨ro, rH⟩ := res
            cases e with
            | returned v =>
              obtain ⟨ι', x, hro, hv, hr, hext⟩ := he
              simp only [] at hro hr hext
              subst hro
              exact hnext v x ι' rH w' hv hr hext h
            | panicked c =>
              obtain ⟨ι', x, v, hro, rfl, hv, hr, hext⟩ := he
              simp only [] at hro hr hext
              subst hro
              simp only [Option.some.injEq] at h
              subst h
              exact hpanic v x ι' w' rfl hv hr hext
            | outgrown => exact he.elim
        · rename_i x hop
          simp only [Option.map_eq_some_iff] at hs
          obtain ⟨y, hy, rfl⟩ := hs
          have hv := slimX_sound (a := a) hg hf hy
          simp only [SOp.run] at h
          cases hye : y.ev fr <;> rw [hye] at h <;> simp only [Option.some.injEq, reduceCtorEq] at h
          rename_i t z
          subst h
          rw [hye] at hv
          have hv' := hv
          simp only [VRel] at hv'
          obtain ⟨u, hu, hz⟩ := hv'
          have hrun : (execOp a.eval o).run P w = .halt (.panic (.iface t u)) w := by
            simp [execOp, hop, hu, Instr.panic]
          rw [hrun, Oper.upon_panic]
          rw [hu] at hv
          exact hpanic (.iface t u) (.iface t z) ι w rfl hv r Ext.refl
        · cases hs
/-! ### Is it carried out? -/
theorem wanted_sound (hf : FRel nb ι fr a.tmps) (hn : a.tmps.size = nt) {ops : Array Oper} {o : Oper} {g : Option (Nat × Bool)} {b : Bool} (hs : slimGuard nt ops o.guard = some g) (h : wants fr g = some b) :
    Region.wanted o (yielded ops a.tmps) = b := by
  unfold Region.wanted
  cases hg : o.guard with
  | none =>
    rw [hg] at hs
    simp only [slimGuard, Option.some.injEq] at hs
    subst hs
    simp only [wants, Option.some.injEq] at h
    simpa using h
  | some q =>
    obtain ⟨j, want⟩ := q
    rw [hg] at hs
    simp only [slimGuard, Option.bind_eq_some_iff] at hs
    obtain ⟨t, ⟨oj, hoj, hd⟩, hs⟩ := hs
    split at hs
    case isFalse => cases hs
    rename_i hlt
    simp only [Option.some.injEq] at hs
    subst hs
    have hv := hf t
    have htm : a.tmps[t]? = some (a.tmps.getD t undef) := by
      have h1 : t < a.tmps.size := by rw [hn]; exact hlt
      simp [Array.getD, h1]
    simp only [wants] at h
    simp only [yielded, hoj, Option.bind_some, hd, htm]
    cases hx : fr t <;> rw [hx] at h hv <;> first | (cases h; done) | skip
    · rename_i c
      simp only [Option.some.injEq] at h
      simp only [VRel] at hv
      rw [hv, ← h]
      cases c <;> cases want <;> rfl
    · rename_i vs
      cases vs with
      | nil =>
        simp only [Option.some.injEq] at h
        subst h
        simp only [VRel, VRels] at hv
        obtain ⟨l, hl, _⟩ := hv
        rw [hl]
        rfl
      | cons y ys => cases h
end Go.Lite

/-
  A region whose order is open: whatever order is taken, it comes to what the interpreter's one order comes to.
-/
namespace Go.Lite
open Go
open Classical
structure PF (P : Program) (nt : Nat) (ops : Array Oper) (sops : List SOper) (bef : List (List Nat)) : Prop where
  so : ∀ (i : Nat) (o : Oper), ops[i]? = some o → ∃ s, sops[i]? = some s ∧ slimOper P nt ops o = some s
  os : ∀ (i : Nat) (s : SOper), sops[i]? = some s → ∃ o, ops[i]? = some o ∧ slimOper P nt ops o = some s
  f1 : ∀ (i : Nat) (o : Oper), ops[i]? = some o → ∀ d ∈ edgesOf o, d < i
  f2 : ∀ (i : Nat) (o : Oper), ops[i]? = some o → ∀ j ∈ bef.getD i [], ∃ d ∈ edgesOf o, d = j ∨ j ∈ bef.getD d []
  f3 : ∀ (i j : Nat) (s sj : SOper) (d : Nat), sops[i]? = some s → sops[j]? = some sj → i ≠ j → sj.dst = some d → s.dst ≠ some d ∧ (d ∈ s.looks → j ∈ bef.getD i [] ∨ i ∈ bef.getD j [])
def Lst (listed : Array Bool) (i : Nat) : Prop := listed.getD i false = true
theorem Lst_set {listed : Array Bool} {i j : Nat} (hi : i < listed.size) : Lst (listed.setIfInBounds i true) j ↔ (j = i ∨ Lst listed j) := by
  unfold Lst
  by_cases h : j = i
  · subst h; simp [Array.getD_eq_getD_getElem?, hi]
  · simp only [Array.getD_eq_getD_getElem?, Array.getElem?_setIfInBounds_ne (Ne.symm h)]
    simp [h]
theorem slimOper_inv {P : Program} {nt : Nat} {ops : Array Oper} {o : Oper} {s : SOper} (h : slimOper P nt ops o = some s) :
    s.dst = o.dst ∧ (∀ d, o.dst = some d → d < nt) ∧ slimGuard nt ops o.guard = some s.guard ∧ slimOp P nt o.op = some s.op := by
  unfold slimOper at h
  cases hd : slimDst nt o.dst with
  | false => rw [hd] at h; cases h
  | true =>
    rw [hd] at h
    simp only [cond_true, Option.bind_eq_some_iff, Option.map_eq_some_iff] at h
    obtain ⟨g, hg, q, hq, rfl⟩ := h
    refine ⟨rfl, fun d e => ?_, hg, hq⟩
    rw [e] at hd
    simpa [slimDst] using hd
section
variable {P : Program} {nb : NB} {nt : Nat} {ops : Array Oper} {sops : List SOper} {bef : List (List Nat)}
noncomputable def view (sops : List SOper) (listed : Array Bool) (f fr0 : Fr) : Fr := fun t =>
  if ∃ (i : Nat) (s : SOper), Lst listed i ∧ sops[i]? = some s ∧ s.dst = some t then f t else fr0 t
noncomputable def prior (sops : List SOper) (bef : List (List Nat)) (i : Nat) (f fr0 : Fr) : Fr := fun t =>
  if ∃ (j : Nat) (s : SOper), j ∈ bef.getD i [] ∧ sops[j]? = some s ∧ s.dst = some t then f t else fr0 t
structure Pend (sops : List SOper) (bef : List (List Nat)) (fr0 : Fr) (n0 : Nat) (f : Fr) (G : Heap) (ι : Emb) (i : Nat) (s : SOper) (m : Fr) (id : Nat) (ob : Obj) : Prop where
  small : s.big = false
  looks : ∀ t ∈ s.looks, m t = prior sops bef i f fr0 t
  other : ∀ t, t ∉ s.looks → m t = .undef
  val : ∃ b v, wants m s.guard = some b ∧ (∀ d, s.dst = some d → f d = v) ∧ (b = false → v = skipped) ∧
    (b = true → (∃ q, s.op = .p q ∧ q.val m G = some v) ∨ (∃ q, s.op = .a q ∧ q.val m id = some (ob, v) ∧ ι id = none ∧ id < G.n ∧ n0 ≤ id ∧ G.t.get id = some ob))
structure Inv (P : Program) (nb : NB) (nt : Nat) (ops : Array Oper) (sops : List SOper) (bef : List (List Nat)) (fr0 : Fr) (ι0 : Emb) (H0 : Heap) (w0 : World) (ds : List Deferred)
    (ι : Emb) (f : Fr) (G : Heap) (a : Act) (w : World) (listed : Array Bool) (E : List Nat) (m : Nat → Fr) (ids : Nat → Nat) (obs : Nat → Obj) : Prop where
  size : listed.size = ops.size
  dE : ∀ i, Lst listed i → i ∈ E
  big : ∀ i ∈ E, ∀ s, sops[i]? = some s → s.big = true → Lst listed i
  closed : ∀ i o, ops[i]? = some o → Lst listed i → ∀ d ∈ edgesOf o, Lst listed d
  eb : ∀ i ∈ E, ∀ j ∈ bef.getD i [], j ∈ E
  frame : FRel nb ι (view sops listed f fr0) a.tmps
  tsize : a.tmps.size = nt
  defers : a.defers = ds
  unw : ∀ t, (∀ i ∈ E, ∀ s, sops[i]? = some s → s.dst ≠ some t) → f t = fr0 t
  rel : Rel nb ι G w
  ext : Ext nb ι0 H0 w0 ι G w
  pend : ∀ i ∈ E, ¬ Lst listed i → ∀ s, sops[i]? = some s → Pend sops bef fr0 H0.n f G ι i s (m i) (ids i) (obs i)
  apart : ∀ i ∈ E, ∀ j ∈ E, i ≠ j → ¬ Lst listed i → ¬ Lst listed j → ∀ si sj, sops[i]? = some si → sops[j]? = some sj → wants (m i) si.guard = some true → wants (m j) sj.guard = some true →
    (∃ q, si.op = .a q) → (∃ q, sj.op = .a q) → ids i ≠ ids j
def KeptOf (nb : NB) (sops : List SOper) (fr0 : Fr) (ι : Emb) (a : Act) : Prop := ∀ t, (∀ (j : Nat) (s : SOper), sops[j]? = some s → s.dst ≠ some t) → VRel nb ι (fr0 t) (a.tmps.getD t undef)
theorem before_done (pf : PF P nt ops sops bef) {listed : Array Bool} (hc : ∀ i o, ops[i]? = some o → Lst listed i → ∀ d ∈ edgesOf o, Lst listed d) :
    ∀ (i : Nat) (o : Oper), ops[i]? = some o → (∀ d ∈ edgesOf o, Lst listed d) → ∀ j ∈ bef.getD i [], Lst listed j := by
  intro i
  induction i using Nat.strongRecOn with
  | _ i ih =>
    intro o ho hd j hj
    obtain ⟨d, hdm, hor⟩ := pf.f2 i o ho j hj
    have hl := hd d hdm
    rcases hor with rfl | hjd
    · exact hl
    · have hlt := pf.f1 i o ho d hdm
      have hod : ∃ od, ops[d]? = some od := by
        have : i < ops.size := (Array.getElem?_eq_some_iff.1 ho).1
        exact ⟨ops[d]'(by omega), Array.getElem?_eq_getElem _⟩
      obtain ⟨od, hod⟩ := hod
      exact ih d hlt od hod (hc d od hod hl) j hjd
theorem view_prior (pf : PF P nt ops sops bef) {listed : Array Bool} (hc : ∀ i o, ops[i]? = some o → Lst listed i → ∀ d ∈ edgesOf o, Lst listed d) {i : Nat} {o : Oper} {s : SOper} (ho : ops[i]? = some o) (hs : sops[i]? = some s)
    (hd : ∀ d ∈ edgesOf o, Lst listed d) (hn : ¬ Lst listed i) (f fr0 : Fr) {t : Nat} (ht : t ∈ s.looks) : view sops listed f fr0 t = prior sops bef i f fr0 t := by
  have hbd := before_done pf hc
  unfold view prior
  by_cases h : ∃ (j : Nat) (s : SOper), j ∈ bef.getD i [] ∧ sops[j]? = some s ∧ s.dst = some t
  · rw [if_pos h, if_pos]
    obtain ⟨j, sj, hj, hsj, hdj⟩ := h
    exact ⟨j, sj, hbd i o ho hd j hj, hsj, hdj⟩
  · rw [if_neg h, if_neg]
    rintro ⟨j, sj, hlj, hsj, hdj⟩
    by_cases hij : i = j
    · subst hij; exact hn hlj
    · rcases (pf.f3 i j s sj t hs hsj hij hdj).2 ht with h1 | h1
      · exact h ⟨j, sj, h1, hsj, hdj⟩
      · obtain ⟨oj, hoj, _⟩ := pf.os j sj hsj
        exact hn (hbd j oj hoj (hc j oj hoj hlj) i h1)
end
end Go.Lite

/-
  A region whose order is open: the interpreter goes on; an operation is carried out.
-/
namespace Go.Lite
open Go
open Classical
variable {P : Program} {nb : NB} {nt : Nat} {ops : Array Oper} {sops : List SOper} {bef : List (List Nat)} {fr0 : Fr} {ι0 : Emb} {H0 : Heap} {w0 : World} {ds : List Deferred}
  {ι : Emb} {f : Fr} {G : Heap} {a : Act} {w : World} {listed : Array Bool} {E : List Nat} {m : Nat → Fr} {ids : Nat → Nat} {obs : Nat → Obj}
theorem Ext.pushed (h : Ext nb ι0 H0 w0 ι G w) (o : Obj) : Ext nb ι0 H0 w0 ι (G.push o) w where
  le := h.le
  size := h.size
  kept := h.kept
  rng := h.rng
  fresh := h.fresh
  n := by have := h.n; simp only [Heap.push]; omega
  unborn k hk e := by
    have := h.n
    simp only [Heap.push, T.get_set]
    rw [if_neg (by omega)]
    exact h.unborn k hk e
  base := h.base
  env := h.env
  frz := h.frz
theorem Ext.bornLate {w' : World} {k : Nat} {ob : Go.Obj} {l : Loc} (h : Ext nb ι0 H0 w0 ι G w) (hk : ι k = none) (hn : H0.n ≤ k) (ht : Turned w w' (w.heap.push ob)) (hl : l.blk = w.heap.size) :
    Ext nb ι0 H0 w0 (ι.put k l) G w' where
  le := Emb.le_trans h.le (Emb.le_put hk)
  size := by have := h.size; rw [ht.heap]; simp; omega
  kept b hb hc := by rw [heap_push_lt ht.heap (by have := h.size; omega)]; exact h.kept b hb hc
  rng j q hj hq := by
    simp only [Emb.put_at] at hj
    by_cases hjk : j = k
    · rw [if_pos hjk] at hj
      simp only [Option.some.injEq] at hj
      subst hj
      have := h.size
      omega
    · rw [if_neg hjk] at hj
      exact h.rng j q hj hq
  fresh j q hj := by
    simp only [Emb.put_at] at hj
    by_cases hjk : j = k
    · right; omega
    · rw [if_neg hjk] at hj; exact h.fresh j q hj
  n := h.n
  unborn := h.unborn
  base := h.base
  env := ⟨ht.env.1.trans h.env.1, ht.env.2.1.trans h.env.2.1, ht.env.2.2.trans h.env.2.2⟩
  frz := h.frz
theorem Ext.sameHeap {w' : World} (h : Ext nb ι0 H0 w0 ι G w) (ht : Turned w w' w.heap) : Ext nb ι0 H0 w0 ι G w' where
  le := h.le
  size := by rw [ht.heap]; exact h.size
  kept b hb hc := by rw [ht.heap]; exact h.kept b hb hc
  rng := h.rng
  fresh := h.fresh
  n := h.n
  unborn := h.unborn
  base := h.base
  env := ⟨ht.env.1.trans h.env.1, ht.env.2.1.trans h.env.2.1, ht.env.2.2.trans h.env.2.2⟩
  frz := h.frz
theorem put_other {f : Fr} {d : Option Nat} {t : Nat} {v : AV} (h : d ≠ some t) : (f.put d v) t = f t := by
  cases d with
  | none => rfl
  | some d =>
    simp only [Fr.put, Fr.set]
    have : Nat.beq t d = false := by
      cases hb : Nat.beq t d with
      | false => rfl
      | true => exact absurd (by rw [Nat.eq_of_beq_eq_true hb]) h
    rw [this]; rfl
theorem put_same {f : Fr} {d : Option Nat} {t : Nat} {v : AV} (h : d = some t) : (f.put d v) t = v := by
  subst h
  simp [Fr.put, Fr.set]
theorem Pend.move {f' : Fr} {G' : Heap} {n0 i : Nat} {s : SOper} {mi : Fr} {id : Nat} {ob : Obj} (h : Pend sops bef fr0 n0 f G ι i s mi id ob) (hb : ∀ j ∈ bef.getD i [], ∀ sj, sops[j]? = some sj → ∀ t, sj.dst = some t → f' t = f t)
    (hd : ∀ t, s.dst = some t → f' t = f t) (hv : ∀ q v, s.op = .p q → wants mi s.guard = some true → q.val mi G = some v → f' = f' → (∀ d, s.dst = some d → f d = v) → q.val mi G' = some v) (hn : G.n ≤ G'.n)
    (hg : id < G.n → ι id = none → G'.t.get id = G.t.get id) {ι' : Emb} (hι : id < G.n → ι id = none → (∃ q, s.op = .a q) → wants mi s.guard = some true → ι' id = none) : Pend sops bef fr0 n0 f' G' ι' i s mi id ob where
  small := h.small
  looks t ht := by
    rw [h.looks t ht]
    unfold prior
    by_cases c : ∃ (j : Nat) (s : SOper), j ∈ bef.getD i [] ∧ sops[j]? = some s ∧ s.dst = some t
    · rw [if_pos c, if_pos c]
      obtain ⟨j, sj, hj, hsj, hdj⟩ := c
      exact (hb j hj sj hsj t hdj).symm
    · rw [if_neg c, if_neg c]
  other := h.other
  val := by
    obtain ⟨b, v, h1, h2, h3, h4⟩ := h.val
    refine ⟨b, v, h1, fun d e => by rw [hd d e]; exact h2 d e, h3, fun e => ?_⟩
    subst e
    rcases h4 rfl with ⟨q, hq, hqv⟩ | ⟨q, hq, hqv, g1, g2, g3, g4⟩
    · exact .inl ⟨q, hq, hv q v hq h1 hqv rfl h2⟩
    · exact .inr ⟨q, hq, hqv, hι g2 g1 ⟨q, hq⟩ h1, by omega, g3, by rw [hg g2 g1]; exact g4⟩
theorem updN {α : Type} (m : Nat → α) (i : Nat) (x : α) : ∃ m' : Nat → α, m' i = x ∧ ∀ j, j ≠ i → m' j = m j :=
  ⟨fun j => if j = i then x else m j, by simp, fun j hj => by simp [hj]⟩
theorem Inv.take (pf : PF P nt ops sops bef) (v : Inv P nb nt ops sops bef fr0 ι0 H0 w0 ds ι f G a w listed E m ids obs) {i : Nat} {s : SOper} (hs : sops[i]? = some s) (hsm : s.big = false) (hi : i ∉ E) (hbi : ∀ j ∈ bef.getD i [], j ∈ E)
    {call : CallF} {kk : Fr → Heap → R} {out : Out × Heap} (h : s.run call f G kk = some out) :
    ∃ f' G' m' ids' obs', Inv P nb nt ops sops bef fr0 ι0 H0 w0 ds ι f' G' a w listed (i :: E) m' ids' obs' ∧ kk f' G' = some out := by
  -- what the operation yields, where it stands
  obtain ⟨b, hb, h⟩ := Option.bind_eq_some_iff.1 h
  have hlooksf : ∀ t ∈ s.looks, (f.mask s.looks) t = prior sops bef i f fr0 t := by
    intro t ht
    rw [mask_eq ht]
    unfold prior
    by_cases c : ∃ (j : Nat) (s : SOper), j ∈ bef.getD i [] ∧ sops[j]? = some s ∧ s.dst = some t
    · rw [if_pos c]
    · rw [if_neg c]
      refine v.unw t fun j hj sj hsj hdj => ?_
      have hij : i ≠ j := fun e => hi (e ▸ hj)
      rcases (pf.f3 i j s sj t hs hsj hij hdj).2 ht with h1 | h1
      · exact c ⟨j, sj, h1, hsj, hdj⟩
      · exact hi (v.eb j hj i h1)
  have hwm : wants (f.mask s.looks) s.guard = some b := by
    rw [← hb]
    exact wants_congr fun t c e => mask_eq (SOper.guard_looks e)
  have hopc : ∀ t ∈ s.op.tmps, (f.mask s.looks) t = f t := fun t ht => mask_eq (SOper.op_looks ht)
  have hnl : ¬ Lst listed i := fun e => hi (v.dE i e)
  have hGn : ι G.n = none := by
    cases e : ι G.n with
    | none => rfl
    | some q => have := (v.rel.dom _ _ e).2.2; omega
  -- the general step
  have gen : ∀ (x : AV) (G' : Heap) (id : Nat) (ob : Obj), (G' = G ∨ ∃ o, G' = G.push o) → ((b = false → x = skipped) ∧
      (b = true → (∃ q, s.op = .p q ∧ q.val (f.mask s.looks) G' = some x) ∨ (∃ q, s.op = .a q ∧ q.val (f.mask s.looks) id = some (ob, x) ∧ id = G.n ∧ G' = G.push ob))) →
      ∃ m' ids' obs', Inv P nb nt ops sops bef fr0 ι0 H0 w0 ds ι (f.put s.dst x) G' a w listed (i :: E) m' ids' obs' := by
    intro x G' id ob hG hval
    obtain ⟨m', hm1, hm2⟩ := updN m i (f.mask s.looks)
    obtain ⟨ids', hi1, hi2⟩ := updN ids i id
    obtain ⟨obs', ho1, ho2⟩ := updN obs i ob
    have hGle : G.n ≤ G'.n := by rcases hG with rfl | ⟨o, rfl⟩ <;> simp [Heap.push]
    have hGget : ∀ k, k < G.n → G'.t.get k = G.t.get k := fun k hk => by
      rcases hG with rfl | ⟨o, rfl⟩
      · rfl
      · simp only [Heap.push, T.get_set]; rw [if_neg (by omega)]
    have hGval : ∀ (q : POp) (g : Fr) (y : AV), q.val g G = some y → q.val g G' = some y := fun q g y hq => by
      rcases hG with rfl | ⟨o, rfl⟩
      · exact hq
      · exact POp.push v.rel.lt hq
    have hne : ∀ j ∈ E, j ≠ i := fun j hj e => hi (e ▸ hj)
    have hdst : ∀ j sj t, j ≠ i → sops[j]? = some sj → sj.dst = some t → (f.put s.dst x) t = f t := fun j sj t hj hsj hd =>
      put_other fun e => (pf.f3 j i sj s t hsj hs hj e).1 hd
    refine ⟨m', ids', obs', ⟨v.size, fun j hj => List.mem_cons_of_mem _ (v.dE j hj), fun j hj sj hsj hbig => ?_, v.closed, fun j hj k hk => ?_, ?_, v.tsize, v.defers, fun t ht => ?_, ?_, ?_, fun j hj hjl sj hsj => ?_, fun j hj k hk hjk hjl hkl sj sk hsj hsk hwj hwk hqj hqk => ?_⟩⟩
    · rcases List.mem_cons.1 hj with rfl | hj
      · rw [hs] at hsj; simp only [Option.some.injEq] at hsj; subst hsj; rw [hsm] at hbig; cases hbig
      · exact v.big j hj sj hsj hbig
    · rcases List.mem_cons.1 hj with rfl | hj
      · exact List.mem_cons_of_mem _ (hbi k hk)
      · exact List.mem_cons_of_mem _ (v.eb j hj k hk)
    · intro t
      have := v.frame t
      unfold view at this ⊢
      by_cases c : ∃ (i : Nat) (s : SOper), Lst listed i ∧ sops[i]? = some s ∧ s.dst = some t
      · rw [if_pos c] at this ⊢
        obtain ⟨j, sj, hj, hsj, hd⟩ := c
        rw [hdst j sj t (hne j (v.dE j hj)) hsj hd]
        exact this
      · rw [if_neg c] at this ⊢
        exact this
    · have h1 : s.dst ≠ some t := ht i (by simp) s hs
      rw [put_other h1]
      exact v.unw t fun j hj => ht j (List.mem_cons_of_mem _ hj)
    · rcases hG with rfl | ⟨o, rfl⟩
      · exact v.rel
      · exact v.rel.push o
    · rcases hG with rfl | ⟨o, rfl⟩
      · exact v.ext
      · exact v.ext.pushed o
    · rcases List.mem_cons.1 hj with rfl | hj
      · rw [hs] at hsj; simp only [Option.some.injEq] at hsj; subst hsj
        rw [hm1, hi1, ho1]
        refine ⟨hsm, fun t ht => ?_, fun t ht => by simp [Fr.mask, ht], b, x, hwm, fun d hd => put_same hd, hval.1, fun e => ?_⟩
        · rw [hlooksf t ht]
          unfold prior
          by_cases c : ∃ (j' : Nat) (s : SOper), j' ∈ bef.getD j [] ∧ sops[j']? = some s ∧ s.dst = some t
          · rw [if_pos c, if_pos c]
            obtain ⟨k, sk, hk, hsk, hd⟩ := c
            exact (hdst k sk t (hne k (hbi k hk)) hsk hd).symm
          · rw [if_neg c, if_neg c]
        · rcases hval.2 e with h1 | ⟨q, hq, hqv, rfl, rfl⟩
          · exact .inl h1
          · have := v.ext.n
            exact .inr ⟨q, hq, hqv, hGn, by simp [Heap.push], this, by simp [Heap.push, T.get_set]⟩
      · rw [hm2 j (hne j hj), hi2 j (hne j hj), ho2 j (hne j hj)]
        refine (v.pend j hj hjl sj hsj).move (fun k hk sk hsk t hd => hdst k sk t (hne k (v.eb j hj k hk)) hsk hd) (fun t hd => hdst j sj t (hne j hj) hsj hd) (fun q y _ _ hq _ _ => hGval q _ y hq) hGle (fun hk _ => hGget _ hk) (fun _ h _ _ => h)
    · rcases List.mem_cons.1 hj with rfl | hj2
      · rcases List.mem_cons.1 hk with rfl | hk2
        · exact absurd rfl hjk
        · rw [hi1, hi2 k (hne k hk2)]
          rw [hm2 k (hne k hk2)] at hwk
          rw [hs] at hsj; simp only [Option.some.injEq] at hsj; subst hsj
          rw [hm1, hwm] at hwj
          simp only [Option.some.injEq] at hwj
          obtain ⟨q, hq⟩ := hqj
          rcases hval.2 hwj with ⟨q', hq', _⟩ | ⟨q', _, _, rfl, _⟩
          · rw [hq] at hq'; cases hq'
          · obtain ⟨bb, y, g1, _, _, g4⟩ := (v.pend k hk2 hkl sk hsk).val
            rw [hwk] at g1
            simp only [Option.some.injEq] at g1
            obtain ⟨q2, hq2⟩ := hqk
            rcases g4 g1.symm with ⟨q3, hq3, _⟩ | ⟨q3, _, _, _, hlt, _⟩
            · rw [hq2] at hq3; cases hq3
            · omega
      · rcases List.mem_cons.1 hk with rfl | hk2
        · rw [hi1, hi2 j (hne j hj2)]
          rw [hm2 j (hne j hj2)] at hwj
          rw [hs] at hsk; simp only [Option.some.injEq] at hsk; subst hsk
          rw [hm1, hwm] at hwk
          simp only [Option.some.injEq] at hwk
          obtain ⟨q, hq⟩ := hqk
          rcases hval.2 hwk with ⟨q', hq', _⟩ | ⟨q', _, _, rfl, _⟩
          · rw [hq] at hq'; cases hq'
          · obtain ⟨bb, y, g1, _, _, g4⟩ := (v.pend j hj2 hjl sj hsj).val
            rw [hwj] at g1
            simp only [Option.some.injEq] at g1
            obtain ⟨q2, hq2⟩ := hqj
            rcases g4 g1.symm with ⟨q3, hq3, _⟩ | ⟨q3, _, _, _, hlt, _⟩
            · rw [hq2] at hq3; cases hq3
            · omega
        · rw [hi2 j (hne j hj2), hi2 k (hne k hk2)]
          rw [hm2 j (hne j hj2)] at hwj
          rw [hm2 k (hne k hk2)] at hwk
          exact v.apart j hj2 k hk2 hjk hjl hkl sj sk hsj hsk hwj hwk hqj hqk
  cases b with
  | false =>
    simp only [cond_false] at h
    obtain ⟨m', ids', obs', hv⟩ := gen skipped G 0 (.iter [] 0) (.inl rfl) ⟨fun _ => rfl, fun e => by cases e⟩
    exact ⟨_, _, m', ids', obs', hv, h⟩
  | true =>
    simp only [cond_true] at h
    unfold SOper.big at hsm
    cases hop : s.op with
    | p q =>
      rw [hop] at h
      simp only [SOp.run, Option.bind_eq_some_iff] at h
      obtain ⟨x, hx, hk⟩ := h
      have hx' : q.val (f.mask s.looks) G = some x := by
        rw [← hx]
        exact POp.congr fun t ht => hopc t (by rw [hop]; exact ht)
      obtain ⟨m', ids', obs', hv⟩ := gen x G 0 (.iter [] 0) (.inl rfl) ⟨fun e => (by cases e), fun _ => .inl ⟨q, hop, hx'⟩⟩
      exact ⟨_, _, m', ids', obs', hv, hk⟩
    | a q =>
      rw [hop] at h
      simp only [SOp.run, Option.bind_eq_some_iff] at h
      obtain ⟨⟨ob, x⟩, hx, hk⟩ := h
      have hx' : q.val (f.mask s.looks) G.n = some (ob, x) := by
        rw [← hx]
        exact AOp.congr fun t ht => hopc t (by rw [hop]; exact ht)
      obtain ⟨m', ids', obs', hv⟩ := gen x (G.push ob) G.n ob (.inr ⟨ob, rfl⟩) ⟨fun e => (by cases e), fun _ => .inr ⟨q, hop, hx', rfl, rfl⟩⟩
      exact ⟨_, _, m', ids', obs', hv, hk⟩
    | w q => rw [hop] at hsm; cases hsm
    | call g as => rw [hop] at hsm; cases hsm
    | panic y => rw [hop] at hsm; cases hsm
end Go.Lite

/-
  A region whose order is open: an operation is carried out; all of them.
-/
namespace Go.Lite
open Go
open Classical
variable {P : Program} {nb : NB} {nt : Nat} {ops : Array Oper} {sops : List SOper} {bef : List (List Nat)} {fr0 : Fr} {ι0 : Emb} {H0 : Heap} {w0 : World} {ds : List Deferred}
  {ι : Emb} {f : Fr} {G : Heap} {a : Act} {w : World} {listed : Array Bool} {E : List Nat} {m : Nat → Fr} {ids : Nat → Nat} {obs : Nat → Obj}
theorem put_tmps_same {a : Act} {d : Nat} {v : Value} (h : d < a.tmps.size) : (a.put (some d) v).tmps.getD d undef = v := by
  simp [Act.put, Array.getD_eq_getD_getElem?, h]
theorem put_tmps_other {a : Act} {d : Option Nat} {t : Nat} {v : Value} (h : d ≠ some t) : (a.put d v).tmps.getD t undef = a.tmps.getD t undef := by
  cases d with
  | none => rfl
  | some d =>
    have : d ≠ t := fun e => h (by rw [e])
    simp [Act.put, Array.getD_eq_getD_getElem?, Array.getElem?_setIfInBounds_ne this]
theorem put_size {a : Act} {d : Option Nat} {v : Value} : (a.put d v).tmps.size = a.tmps.size := by
  cases d <;> simp [Act.put]
theorem put_defers' {a : Act} {d : Option Nat} {v : Value} : (a.put d v).defers = a.defers := by
  cases d <;> rfl
theorem view_put (pf : PF P nt ops sops bef) {i : Nat} {s : SOper} (hs : sops[i]? = some s) (hi : i < listed.size) {ι' : Emb} {v : Value} {x : AV} (hle : ι.le ι')
    (hf : FRel nb ι (view sops listed f fr0) a.tmps) (hdn : ∀ d, s.dst = some d → d < a.tmps.size) (hv : VRel nb ι' x v) (hx : ∀ d, s.dst = some d → f d = x) :
    FRel nb ι' (view sops (listed.setIfInBounds i true) f fr0) (a.put s.dst v).tmps := by
  intro t
  by_cases h : s.dst = some t
  · have e1 : view sops (listed.setIfInBounds i true) f fr0 t = x := by
      unfold view
      rw [if_pos ⟨i, s, (Lst_set hi).2 (.inl rfl), hs, h⟩]
      exact hx t h
    rw [e1, h, put_tmps_same (hdn t h)]
    exact hv
  · have e1 : view sops (listed.setIfInBounds i true) f fr0 t = view sops listed f fr0 t := by
      unfold view
      by_cases c : ∃ (i : Nat) (s : SOper), Lst listed i ∧ sops[i]? = some s ∧ s.dst = some t
      · rw [if_pos c, if_pos]
        obtain ⟨j, sj, hj, hsj, hd⟩ := c
        exact ⟨j, sj, (Lst_set hi).2 (.inr hj), hsj, hd⟩
      · rw [if_neg c, if_neg]
        rintro ⟨j, sj, hj, hsj, hd⟩
        rcases (Lst_set hi).1 hj with rfl | hj
        · rw [hs] at hsj; simp only [Option.some.injEq] at hsj; subst hsj; exact h hd
        · exact c ⟨j, sj, hj, hsj, hd⟩
    rw [e1, put_tmps_other h]
    exact (hf t).mono hle
theorem Inv.sees (pf : PF P nt ops sops bef) (v : Inv P nb nt ops sops bef fr0 ι0 H0 w0 ds ι f G a w listed E m ids obs) {i : Nat} {o : Oper} {s : SOper} (ho : ops[i]? = some o) (hs : sops[i]? = some s)
    (hd : ∀ d ∈ edgesOf o, Lst listed d) (hn : ¬ Lst listed i) {g : Fr} (hg : ∀ t ∈ s.looks, g t = prior sops bef i f fr0 t) (hg2 : ∀ t, t ∉ s.looks → g t = .undef) : FRel nb ι g a.tmps := by
  intro t
  by_cases ht : t ∈ s.looks
  · rw [hg t ht, ← view_prior pf v.closed ho hs hd hn f fr0 ht]
    exact v.frame t
  · rw [hg2 t ht]
    simp only [VRel]
theorem Inv.carry (hgl : P.globals.size ≤ nb) (pf : PF P nt ops sops bef) (v : Inv P nb nt ops sops bef fr0 ι0 H0 w0 ds ι f G a w listed E m ids obs) {i : Nat} {o : Oper} (ho : ops[i]? = some o) (hE : i ∈ E)
    (hd : ∀ d ∈ edgesOf o, Lst listed d) (hn : ¬ Lst listed i) {Q : Exit → Act → World → Prop} {K : Act → World → Prop}
    (hK : ∀ ι' a' w', Inv P nb nt ops sops bef fr0 ι0 H0 w0 ds ι' f G a' w' (listed.setIfInBounds i true) E m ids obs → K a' w') : wpOp P ops Q i K a w := by
  obtain ⟨s, hs, hsl⟩ := pf.so i o ho
  obtain ⟨e1, e2, e3, e4⟩ := slimOper_inv hsl
  have hp := v.pend i hE hn s hs
  obtain ⟨b, x, hb, hx, hfalse, htrue⟩ := hp.val
  have hfr := v.sees pf ho hs hd hn hp.looks hp.other
  have hw := wanted_sound hfr v.tsize e3 hb
  have hilt : i < listed.size := by rw [v.size]; exact (Array.getElem?_eq_some_iff.1 ho).1
  have hdn : ∀ d, s.dst = some d → d < a.tmps.size := fun d e => by rw [v.tsize]; exact e2 d (by rw [← e1]; exact e)
  -- the new state
  have gen : ∀ (ι' : Emb) (u : Value) (w' : World), ι.le ι' → VRel nb ι' x u → Rel nb ι' G w' → Ext nb ι0 H0 w0 ι' G w' →
      (∀ j ∈ E, j ≠ i → ¬ Lst listed j → ∀ sj, sops[j]? = some sj → (∃ q, sj.op = .a q) → wants (m j) sj.guard = some true → ι (ids j) = none → ι' (ids j) = none) →
      Inv P nb nt ops sops bef fr0 ι0 H0 w0 ds ι' f G (a.put o.dst u) w' (listed.setIfInBounds i true) E m ids obs := by
    intro ι' u w' hle hu hr hext hids
    refine ⟨by simp [v.size], fun j hj => ?_, fun j hj sj hsj hbig => (Lst_set hilt).2 (.inr (v.big j hj sj hsj hbig)), fun j oj hoj hj d hdj => ?_, v.eb, ?_, by rw [put_size]; exact v.tsize, by rw [put_defers']; exact v.defers, v.unw, hr, hext, fun j hj hjl sj hsj => ?_, fun j hj k hk hjk hjl hkl => ?_⟩
    · rcases (Lst_set hilt).1 hj with rfl | hj
      · exact hE
      · exact v.dE j hj
    · rcases (Lst_set hilt).1 hj with rfl | hj
      · rw [ho] at hoj; simp only [Option.some.injEq] at hoj; subst hoj
        exact (Lst_set hilt).2 (.inr (hd d hdj))
      · exact (Lst_set hilt).2 (.inr (v.closed j oj hoj hj d hdj))
    · rw [← e1]
      exact view_put pf hs hilt hle v.frame hdn hu hx
    · have hji : j ≠ i := fun e => hjl ((Lst_set hilt).2 (.inl e))
      have hjl' : ¬ Lst listed j := fun e => hjl ((Lst_set hilt).2 (.inr e))
      exact (v.pend j hj hjl' sj hsj).move (fun _ _ _ _ _ _ => rfl) (fun _ _ => rfl) (fun _ _ _ _ h _ _ => h) (Nat.le_refl _) (fun _ _ => rfl) (fun _ h hq hw => hids j hj hji hjl' sj hsj hq hw h)
    · have hjl' : ¬ Lst listed j := fun e => hjl ((Lst_set hilt).2 (.inr e))
      have hkl' : ¬ Lst listed k := fun e => hkl ((Lst_set hilt).2 (.inr e))
      exact v.apart j hj k hk hjk hjl' hkl'
  unfold wpOp
  rw [ho]
  simp only []
  cases b with
  | false =>
    rw [if_neg (by rw [hw]; decide)]
    refine hK ι _ w (gen ι undef w (Emb.le_refl ι) ?_ v.rel v.ext fun _ _ _ _ _ _ _ _ h => h)
    rw [hfalse rfl]
    simp [skipped, VRel, VRels, undef]
  | true =>
    rw [if_pos hw]
    left
    unfold Oper.wp
    rcases htrue rfl with ⟨q, hq, hqv⟩ | ⟨q, hq, hqv, h1, h2, h3, h4⟩
    · have hsp : slimP P nt o.op = some q := by
        rw [hq] at e4
        unfold slimOp at e4
        split at e4
        · rename_i po hpo
          simp only [Option.some.injEq, SOp.p.injEq] at e4
          rw [← e4]; exact hpo
        · split at e4
          · simp at e4
          · split at e4
            · simp at e4
            · split at e4
              · simp only [Option.bind_eq_some_iff, Option.map_eq_some_iff] at e4
                obtain ⟨_, _, _, _, h⟩ := e4
                cases h
              · simp only [Option.map_eq_some_iff] at e4
                obtain ⟨_, _, h⟩ := e4
                cases h
              · cases e4
      obtain ⟨u, w', hrun, hh, hu⟩ := pop_sound hgl hfr v.rel hsp hqv
      rw [hrun, Oper.upon_value]
      exact hK ι _ w' (gen ι u w' (Emb.le_refl ι) hu (v.rel.same hh.heap) (v.ext.sameHeap hh) fun _ _ _ _ _ _ _ _ h => h)
    · have hsa : slimA P nt o.op = some q := by
        rw [hq] at e4
        unfold slimOp at e4
        split at e4
        · simp at e4
        · split at e4
          · rename_i ao hao
            simp only [Option.some.injEq, SOp.a.injEq] at e4
            rw [← e4]; exact hao
          · split at e4
            · simp at e4
            · split at e4
              · simp only [Option.bind_eq_some_iff, Option.map_eq_some_iff] at e4
                obtain ⟨_, _, _, _, h⟩ := e4
                cases h
              · simp only [Option.map_eq_some_iff] at e4
                obtain ⟨_, _, h⟩ := e4
                cases h
              · cases e4
      obtain ⟨u, w', ob, l, hrun, hh, hl, hb', hu⟩ := aop_sound (w := w) hgl hfr hsa hqv
      rw [hrun, Oper.upon_value]
      obtain ⟨q1, q2, q3⟩ := (v.rel.born h1 h4 hh.heap hl hb').added h4
      refine hK (ι.add (ids i) l _ w') _ w' (gen _ u w' (Emb.le_add h1) (hu _ Emb.add_same (Emb.le_add h1) q3) q1 ((v.ext.bornLate h1 h3 hh hl).trans q2) fun j hj hji hjl sj hsj hjq hjw hjn => ?_)
      have := v.apart i hE j hj (Ne.symm hji) hn hjl s sj hs hsj hb hjw ⟨q, hq⟩ hjq
      rw [Emb.add_at]
      rw [if_neg (Ne.symm this)]
      exact hjn
def left (listed : Array Bool) (n : Nat) : Nat := ((List.range n).filter fun i => !listed.getD i false).length
theorem left_set {listed : Array Bool} {n i : Nat} (hi : i < n) (hs : listed.size = n) (hn : ¬ Lst listed i) : left (listed.setIfInBounds i true) n + 1 = left listed n := by
  unfold left
  have key : ∀ (l : List Nat), l.Nodup → i ∈ l → ((l.filter fun j => !(listed.setIfInBounds i true).getD j false).length) + 1 = (l.filter fun j => !listed.getD j false).length := by
    intro l
    induction l with
    | nil => intro _ h; cases h
    | cons j l ih =>
      intro hnd hm
      rw [List.nodup_cons] at hnd
      by_cases hj : j = i
      · subst hj
        have e1 : (listed.setIfInBounds j true).getD j false = true := (Lst_set (by omega)).2 (.inl rfl)
        have e2 : listed.getD j false = false := by
          unfold Lst at hn; simpa using hn
        have e3 : (l.filter fun k => !(listed.setIfInBounds j true).getD k false) = l.filter fun k => !listed.getD k false := by
          apply List.filter_congr
          intro k hk
          have hkj : j ≠ k := fun e => hnd.1 (e ▸ hk)
          simp [Array.getD_eq_getD_getElem?, Array.getElem?_setIfInBounds_ne hkj]
        simp only [List.filter_cons, e1, e2, Bool.not_true, Bool.not_false, if_true, Bool.false_eq_true, if_false, List.length_cons, e3]
      · have e1 : (listed.setIfInBounds i true).getD j false = listed.getD j false := by
          simp [Array.getD_eq_getD_getElem?, Array.getElem?_setIfInBounds_ne (Ne.symm hj)]
        have hm' : i ∈ l := by
          rcases List.mem_cons.1 hm with e | e
          · exact absurd e.symm hj
          · exact e
        have := ih hnd.2 hm'
        simp only [List.filter_cons, e1]
        split
        · simp only [List.length_cons]; omega
        · exact this
  exact key _ List.nodup_range (List.mem_range.2 hi)
end Go.Lite
