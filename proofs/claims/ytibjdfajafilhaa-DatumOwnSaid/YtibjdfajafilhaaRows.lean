/-
  NARROWER THAN 'FOR EVERY INPUT', by the rows' own cells (each row's printed sentence says how): DatumText: loops · DatumOwn: loops · DatumAll: loops · DatumSame: loops · DatumPlain: loops · DatumDeep: loops.
  DERIVED. THE GIVEN ROWS OF THIS SEAT. 8 by the template 'for every input the law returns true; each argument reads behind the call as it read before'; 0 by the template 'total and deterministic' (their statements: YtibjdfajafilhaaTotals.lean).
  GIVEN WITH THE SEED: the statements are not yours to turn. If you find one false, say at which input.
  Laid BY PROGRAM, IN A SANDBOX (cutbox-rows.mjs): the forced cells as the released guide's own fill.sh prints them over the translation b479efc5305ffbae… (all of the seat's roots in one cut). By AI agents, Wed Nov 11 2026. No macro, syntax, notation, axiom, sorry.
-/
import Derived.Test.YtibjdfajafilhaaChecked
import GoSem.Claim
import GoSem.ClaimJoined
import GoSem.ClaimMapViews
import Derived.JoinedTies
import Derived.KernelRfl
namespace Go.Proofs.Ytibjdfajafilhaa
/- THE CELL 'sum', in the pinned program and in every row, IS THE sha256 OF THE DUMP (.gsa) THAT YtibjdfajafilhaaProg.lean LOADS. Nothing in Lean hashes anything: it is a label: what it is worth is what the hold of that sum in a sandbox is worth. -/
noncomputable def Try.pinned : Pinned := { name := "ytibjdfajafilhaa", sum := "b479efc5305ffbaee894152b488a4a8b04f6407c366470a601e8d4e3d503f4c9", checked := Try.checked }
namespace Rows
def none {H : Type} : Left H := { results := [], args := [] }

/-- 'thunklaw2.DatumText': WHATEVER THE INPUT: true; the input reads as it did. -/
def datumTextSpec : ChangeSpec := { name := "datumText", fn := fun _ => fun
  | [d] => { results := [.lit (.bool true)], args := [d] }
  | _ => none }
def datumTextRow : OpenClaim := { program := "ytibjdfajafilhaa", sum := "b479efc5305ffbaee894152b488a4a8b04f6407c366470a601e8d4e3d503f4c9", func := "thunk/thunklaw2.DatumText", spec := "datumText", inPlace := ["internal/abi.NoEscape"], recurses := true, loops := true, apart := false }
def DatumTextSaid : Prop := datumTextRow.holds Try.pinned (OpenSpec.ofChange datumTextSpec)

/-- ITS FALSE NEIGHBOUR: 'it returns false'. Refute it at one input. -/
def datumTextWrong : ChangeSpec := { name := "datumText", fn := fun _ => fun
  | [d] => { results := [.lit (.bool false)], args := [d] }
  | _ => none }
def DatumTextWrongFalsely : Prop := datumTextRow.holds Try.pinned (OpenSpec.ofChange datumTextWrong)

/-- 'thunklaw2.DatumOwn': WHATEVER THE INPUT: true; the input reads as it did. -/
def datumOwnSpec : ChangeSpec := { name := "datumOwn", fn := fun _ => fun
  | [d1, d2] => { results := [.lit (.bool true)], args := [d1, d2] }
  | _ => none }
def datumOwnRow : OpenClaim := { program := "ytibjdfajafilhaa", sum := "b479efc5305ffbaee894152b488a4a8b04f6407c366470a601e8d4e3d503f4c9", func := "thunk/thunklaw2.DatumOwn", spec := "datumOwn", inPlace := ["internal/abi.NoEscape"], recurses := true, loops := true, apart := false }
def DatumOwnSaid : Prop := datumOwnRow.holds Try.pinned (OpenSpec.ofChange datumOwnSpec)

/-- ITS FALSE NEIGHBOUR: 'it returns false'. Refute it at one input. -/
def datumOwnWrong : ChangeSpec := { name := "datumOwn", fn := fun _ => fun
  | [d1, d2] => { results := [.lit (.bool false)], args := [d1, d2] }
  | _ => none }
def DatumOwnWrongFalsely : Prop := datumOwnRow.holds Try.pinned (OpenSpec.ofChange datumOwnWrong)

/-- 'thunklaw2.DatumKinds': WHATEVER THE INPUT: true; the input reads as it did. -/
def datumKindsSpec : ChangeSpec := { name := "datumKinds", fn := fun _ => fun
  | [d1, d2, d3] => { results := [.lit (.bool true)], args := [d1, d2, d3] }
  | _ => none }
def datumKindsRow : OpenClaim := { program := "ytibjdfajafilhaa", sum := "b479efc5305ffbaee894152b488a4a8b04f6407c366470a601e8d4e3d503f4c9", func := "thunk/thunklaw2.DatumKinds", spec := "datumKinds", inPlace := ["internal/abi.NoEscape"], unfollowed := true, recurses := true, apart := false }
def DatumKindsSaid : Prop := datumKindsRow.holds Try.pinned (OpenSpec.ofChange datumKindsSpec)

/-- ITS FALSE NEIGHBOUR: 'it returns false'. Refute it at one input. -/
def datumKindsWrong : ChangeSpec := { name := "datumKinds", fn := fun _ => fun
  | [d1, d2, d3] => { results := [.lit (.bool false)], args := [d1, d2, d3] }
  | _ => none }
def DatumKindsWrongFalsely : Prop := datumKindsRow.holds Try.pinned (OpenSpec.ofChange datumKindsWrong)

/-- 'thunklaw2.DatumAll': WHATEVER THE INPUT: true; the input reads as it did. -/
def datumAllSpec : ChangeSpec := { name := "datumAll", fn := fun _ => fun
  | [d1, d2, d3, d4] => { results := [.lit (.bool true)], args := [d1, d2, d3, d4] }
  | _ => none }
def datumAllRow : OpenClaim := { program := "ytibjdfajafilhaa", sum := "b479efc5305ffbaee894152b488a4a8b04f6407c366470a601e8d4e3d503f4c9", func := "thunk/thunklaw2.DatumAll", spec := "datumAll", inPlace := ["internal/abi.NoEscape"], unfollowed := true, recurses := true, loops := true, apart := false }
def DatumAllSaid : Prop := datumAllRow.holds Try.pinned (OpenSpec.ofChange datumAllSpec)

/-- ITS FALSE NEIGHBOUR: 'it returns false'. Refute it at one input. -/
def datumAllWrong : ChangeSpec := { name := "datumAll", fn := fun _ => fun
  | [d1, d2, d3, d4] => { results := [.lit (.bool false)], args := [d1, d2, d3, d4] }
  | _ => none }
def DatumAllWrongFalsely : Prop := datumAllRow.holds Try.pinned (OpenSpec.ofChange datumAllWrong)

/-- 'thunklaw2.DatumSame': WHATEVER THE INPUT: true; the input reads as it did. -/
def datumSameSpec : ChangeSpec := { name := "datumSame", fn := fun _ => fun
  | [d1, d2, d3, d4] => { results := [.lit (.bool true)], args := [d1, d2, d3, d4] }
  | _ => none }
def datumSameRow : OpenClaim := { program := "ytibjdfajafilhaa", sum := "b479efc5305ffbaee894152b488a4a8b04f6407c366470a601e8d4e3d503f4c9", func := "thunk/thunklaw2.DatumSame", spec := "datumSame", inPlace := ["internal/abi.NoEscape"], unfollowed := true, recurses := true, loops := true, apart := false }
def DatumSameSaid : Prop := datumSameRow.holds Try.pinned (OpenSpec.ofChange datumSameSpec)

/-- ITS FALSE NEIGHBOUR: 'it returns false'. Refute it at one input. -/
def datumSameWrong : ChangeSpec := { name := "datumSame", fn := fun _ => fun
  | [d1, d2, d3, d4] => { results := [.lit (.bool false)], args := [d1, d2, d3, d4] }
  | _ => none }
def DatumSameWrongFalsely : Prop := datumSameRow.holds Try.pinned (OpenSpec.ofChange datumSameWrong)

/-- 'thunklaw2.DatumPlain': WHATEVER THE INPUT: true; the input reads as it did. -/
def datumPlainSpec : ChangeSpec := { name := "datumPlain", fn := fun _ => fun
  | [d1, d2] => { results := [.lit (.bool true)], args := [d1, d2] }
  | _ => none }
def datumPlainRow : OpenClaim := { program := "ytibjdfajafilhaa", sum := "b479efc5305ffbaee894152b488a4a8b04f6407c366470a601e8d4e3d503f4c9", func := "thunk/thunklaw2.DatumPlain", spec := "datumPlain", inPlace := ["internal/abi.NoEscape"], unfollowed := true, recurses := true, loops := true, apart := false }
def DatumPlainSaid : Prop := datumPlainRow.holds Try.pinned (OpenSpec.ofChange datumPlainSpec)

/-- ITS FALSE NEIGHBOUR: 'it returns false'. Refute it at one input. -/
def datumPlainWrong : ChangeSpec := { name := "datumPlain", fn := fun _ => fun
  | [d1, d2] => { results := [.lit (.bool false)], args := [d1, d2] }
  | _ => none }
def DatumPlainWrongFalsely : Prop := datumPlainRow.holds Try.pinned (OpenSpec.ofChange datumPlainWrong)

/-- 'thunklaw2.DatumDeep': WHATEVER THE INPUT: true; the input reads as it did. -/
def datumDeepSpec : ChangeSpec := { name := "datumDeep", fn := fun _ => fun
  | [d1, d2] => { results := [.lit (.bool true)], args := [d1, d2] }
  | _ => none }
def datumDeepRow : OpenClaim := { program := "ytibjdfajafilhaa", sum := "b479efc5305ffbaee894152b488a4a8b04f6407c366470a601e8d4e3d503f4c9", func := "thunk/thunklaw2.DatumDeep", spec := "datumDeep", inPlace := ["internal/abi.NoEscape"], unfollowed := true, recurses := true, loops := true, apart := false }
def DatumDeepSaid : Prop := datumDeepRow.holds Try.pinned (OpenSpec.ofChange datumDeepSpec)

/-- ITS FALSE NEIGHBOUR: 'it returns false'. Refute it at one input. -/
def datumDeepWrong : ChangeSpec := { name := "datumDeep", fn := fun _ => fun
  | [d1, d2] => { results := [.lit (.bool false)], args := [d1, d2] }
  | _ => none }
def DatumDeepWrongFalsely : Prop := datumDeepRow.holds Try.pinned (OpenSpec.ofChange datumDeepWrong)

/-- 'thunklaw2.DatumMarks': WHATEVER THE INPUT: true; the input reads as it did. -/
def datumMarksSpec : ChangeSpec := { name := "datumMarks", fn := fun _ => fun
  | [d1, d2] => { results := [.lit (.bool true)], args := [d1, d2] }
  | _ => none }
def datumMarksRow : OpenClaim := { program := "ytibjdfajafilhaa", sum := "b479efc5305ffbaee894152b488a4a8b04f6407c366470a601e8d4e3d503f4c9", func := "thunk/thunklaw2.DatumMarks", spec := "datumMarks", inPlace := ["internal/abi.NoEscape"], unfollowed := true, recurses := true, apart := false }
def DatumMarksSaid : Prop := datumMarksRow.holds Try.pinned (OpenSpec.ofChange datumMarksSpec)

/-- ITS FALSE NEIGHBOUR: 'it returns false'. Refute it at one input. -/
def datumMarksWrong : ChangeSpec := { name := "datumMarks", fn := fun _ => fun
  | [d1, d2] => { results := [.lit (.bool false)], args := [d1, d2] }
  | _ => none }
def DatumMarksWrongFalsely : Prop := datumMarksRow.holds Try.pinned (OpenSpec.ofChange datumMarksWrong)

/- THE SECOND FORM. 'bulk': how many values and letters a reading holds, each counted each time it is reached (what is shared counts as often as it is met; a slice's spare places count too). A statement '..UptoSaid' is the law's where the arguments, and the package variables that the reading takes, are together of bulk at most 1048576: NARROWER than '..Said'. Prove '..Said' where nothing that the law and all that it calls make is longer than what came in: it says more and counts as full. Else prove '..UptoSaid'. A law counts once. -/
mutual
def uptoBulk {H : Type} : DataW H → Nat
  | .lit (.string bytes) => bytes.length + 1
  | .lit _ => 1
  | .nil => 1
  | .ptr d => uptoBulk d + 1
  | .slice elems spare => uptoBulkAll elems + uptoBulkAll spare + 1
  | .agg parts => uptoBulkAll parts + 1
  | .iface _ d => uptoBulk d + 1
  | .map entries => uptoBulkEntries entries + 1
  | .held _ => 1
def uptoBulkAll {H : Type} : List (DataW H) → Nat
  | [] => 0
  | d :: r => uptoBulk d + uptoBulkAll r
def uptoBulkEntries {H : Type} : List (Lit × DataW H) → Nat
  | [] => 0
  | x :: r => uptoBulkEntry x + uptoBulkEntries r
def uptoBulkEntry {H : Type} : Lit × DataW H → Nat
  | (.string bytes, d) => bytes.length + uptoBulk d + 1
  | (_, d) => uptoBulk d + 1
 end
def uptoSmall : (H : Type) → List (DataW H) → Bool := fun _ ds => decide (uptoBulkAll ds ≤ 1048576)
def OpenSpec.upto (s : _root_.Go.ChangeSpec) : _root_.Go.OpenSpec := { _root_.Go.OpenSpec.ofChange s with cond := some uptoSmall }

/-- 'thunklaw2.DatumText', WHERE WHAT IT READS IS OF BULK AT MOST 1048576: true; the input reads as it did. -/
def datumTextUptoRow : OpenClaim := { program := "ytibjdfajafilhaa", sum := "b479efc5305ffbaee894152b488a4a8b04f6407c366470a601e8d4e3d503f4c9", func := "thunk/thunklaw2.DatumText", spec := "datumText", inPlace := ["internal/abi.NoEscape"], recurses := true, loops := true, apart := false, narrowed := true }
def DatumTextUptoSaid : Prop := datumTextUptoRow.holds Try.pinned (OpenSpec.upto datumTextSpec)

/-- 'thunklaw2.DatumOwn', WHERE WHAT IT READS IS OF BULK AT MOST 1048576: true; the input reads as it did. -/
def datumOwnUptoRow : OpenClaim := { program := "ytibjdfajafilhaa", sum := "b479efc5305ffbaee894152b488a4a8b04f6407c366470a601e8d4e3d503f4c9", func := "thunk/thunklaw2.DatumOwn", spec := "datumOwn", inPlace := ["internal/abi.NoEscape"], recurses := true, loops := true, apart := false, narrowed := true }
def DatumOwnUptoSaid : Prop := datumOwnUptoRow.holds Try.pinned (OpenSpec.upto datumOwnSpec)

/-- 'thunklaw2.DatumKinds', WHERE WHAT IT READS IS OF BULK AT MOST 1048576: true; the input reads as it did. -/
def datumKindsUptoRow : OpenClaim := { program := "ytibjdfajafilhaa", sum := "b479efc5305ffbaee894152b488a4a8b04f6407c366470a601e8d4e3d503f4c9", func := "thunk/thunklaw2.DatumKinds", spec := "datumKinds", inPlace := ["internal/abi.NoEscape"], unfollowed := true, recurses := true, apart := false, narrowed := true }
def DatumKindsUptoSaid : Prop := datumKindsUptoRow.holds Try.pinned (OpenSpec.upto datumKindsSpec)

/-- 'thunklaw2.DatumAll', WHERE WHAT IT READS IS OF BULK AT MOST 1048576: true; the input reads as it did. -/
def datumAllUptoRow : OpenClaim := { program := "ytibjdfajafilhaa", sum := "b479efc5305ffbaee894152b488a4a8b04f6407c366470a601e8d4e3d503f4c9", func := "thunk/thunklaw2.DatumAll", spec := "datumAll", inPlace := ["internal/abi.NoEscape"], unfollowed := true, recurses := true, loops := true, apart := false, narrowed := true }
def DatumAllUptoSaid : Prop := datumAllUptoRow.holds Try.pinned (OpenSpec.upto datumAllSpec)

/-- 'thunklaw2.DatumSame', WHERE WHAT IT READS IS OF BULK AT MOST 1048576: true; the input reads as it did. -/
def datumSameUptoRow : OpenClaim := { program := "ytibjdfajafilhaa", sum := "b479efc5305ffbaee894152b488a4a8b04f6407c366470a601e8d4e3d503f4c9", func := "thunk/thunklaw2.DatumSame", spec := "datumSame", inPlace := ["internal/abi.NoEscape"], unfollowed := true, recurses := true, loops := true, apart := false, narrowed := true }
def DatumSameUptoSaid : Prop := datumSameUptoRow.holds Try.pinned (OpenSpec.upto datumSameSpec)

/-- 'thunklaw2.DatumPlain', WHERE WHAT IT READS IS OF BULK AT MOST 1048576: true; the input reads as it did. -/
def datumPlainUptoRow : OpenClaim := { program := "ytibjdfajafilhaa", sum := "b479efc5305ffbaee894152b488a4a8b04f6407c366470a601e8d4e3d503f4c9", func := "thunk/thunklaw2.DatumPlain", spec := "datumPlain", inPlace := ["internal/abi.NoEscape"], unfollowed := true, recurses := true, loops := true, apart := false, narrowed := true }
def DatumPlainUptoSaid : Prop := datumPlainUptoRow.holds Try.pinned (OpenSpec.upto datumPlainSpec)

/-- 'thunklaw2.DatumDeep', WHERE WHAT IT READS IS OF BULK AT MOST 1048576: true; the input reads as it did. -/
def datumDeepUptoRow : OpenClaim := { program := "ytibjdfajafilhaa", sum := "b479efc5305ffbaee894152b488a4a8b04f6407c366470a601e8d4e3d503f4c9", func := "thunk/thunklaw2.DatumDeep", spec := "datumDeep", inPlace := ["internal/abi.NoEscape"], unfollowed := true, recurses := true, loops := true, apart := false, narrowed := true }
def DatumDeepUptoSaid : Prop := datumDeepUptoRow.holds Try.pinned (OpenSpec.upto datumDeepSpec)

/-- 'thunklaw2.DatumMarks', WHERE WHAT IT READS IS OF BULK AT MOST 1048576: true; the input reads as it did. -/
def datumMarksUptoRow : OpenClaim := { program := "ytibjdfajafilhaa", sum := "b479efc5305ffbaee894152b488a4a8b04f6407c366470a601e8d4e3d503f4c9", func := "thunk/thunklaw2.DatumMarks", spec := "datumMarks", inPlace := ["internal/abi.NoEscape"], unfollowed := true, recurses := true, apart := false, narrowed := true }
def DatumMarksUptoSaid : Prop := datumMarksUptoRow.holds Try.pinned (OpenSpec.upto datumMarksSpec)

end Rows
end Go.Proofs.Ytibjdfajafilhaa
