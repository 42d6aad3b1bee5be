/-
  NARROWER THAN 'FOR EVERY INPUT', by the rows' own cells (each row's printed sentence says how): BigRight: laid · BigOrder: laid · BigSigns: laid · BigRules: laid · BigEnds: laid · BigQuo: laid · BigPowers: laid · BigTens: laid · BigAll: laid · BigSmall: laid.
  DERIVED. THE GIVEN ROWS OF THIS SEAT. 10 by the template 'for every input the law returns true; each argument reads behind the call as it read before'; 0 by the template 'total and deterministic' (their statements: YtpnbhbacpkoddaaDoorTotals.lean).
  GIVEN WITH THE SEED: the statements are not yours to turn. If you find one false, say at which input.
  Laid BY PROGRAM, IN A SANDBOX (cutbox-rows.mjs): the forced cells as the released guide's own fill.sh prints them over the translation 71e8f1e33a7ef718… (all of the seat's roots in one cut). By AI agents, Wed Nov 11 2026. No macro, syntax, notation, axiom, sorry.
-/
import Derived.Test.YtpnbhbacpkoddaaDoorChecked
import GoSem.Claim
import GoSem.ClaimJoined
import GoSem.ClaimMapViews
import Derived.JoinedTies
import Derived.KernelRfl
namespace Go.Proofs.YtpnbhbacpkoddaaDoor
/- THE CELL 'sum', in the pinned program and in every row, IS THE sha256 OF THE DUMP (.gsa) THAT YtpnbhbacpkoddaaDoorProg.lean LOADS. Nothing in Lean hashes anything: it is a label: what it is worth is what the hold of that sum in a sandbox is worth. -/
noncomputable def Tryd.pinned : Pinned := { name := "ytpnbhbacpkoddaadoor", sum := "71e8f1e33a7ef718ee2e9d5965c1da4aac19ffd55b054691663b6499b35d6816", checked := Tryd.checked }
namespace Rows
def none {H : Type} : Left H := { results := [], args := [] }

/- WHAT THE LISTED PACKAGE-LEVEL VARIABLES READ AS WHEN THE CALL BEGINS. Each datum BY PROGRAM (the guide's laid-datum.mjs) off the statement by which the dump's own 'gosem.cut.vars' lays the variable. In a bare row this is a premise. The card (YtpnbhbacpkoddaaDoorCards.lean) ties it to the program's text. -/
def laid_math_bits_deBruijn32tab {H : Type} : DataW H := .agg [.lit (.int .u8 0), .lit (.int .u8 1), .lit (.int .u8 28), .lit (.int .u8 2), .lit (.int .u8 29), .lit (.int .u8 14), .lit (.int .u8 24), .lit (.int .u8 3), .lit (.int .u8 30), .lit (.int .u8 22), .lit (.int .u8 20), .lit (.int .u8 15), .lit (.int .u8 25), .lit (.int .u8 17), .lit (.int .u8 4), .lit (.int .u8 8), .lit (.int .u8 31), .lit (.int .u8 27), .lit (.int .u8 13), .lit (.int .u8 23), .lit (.int .u8 21), .lit (.int .u8 19), .lit (.int .u8 16), .lit (.int .u8 7), .lit (.int .u8 26), .lit (.int .u8 12), .lit (.int .u8 18), .lit (.int .u8 6), .lit (.int .u8 11), .lit (.int .u8 5), .lit (.int .u8 10), .lit (.int .u8 9)]
def laid_math_bits_deBruijn64tab {H : Type} : DataW H := .agg [.lit (.int .u8 0), .lit (.int .u8 1), .lit (.int .u8 56), .lit (.int .u8 2), .lit (.int .u8 57), .lit (.int .u8 49), .lit (.int .u8 28), .lit (.int .u8 3), .lit (.int .u8 61), .lit (.int .u8 58), .lit (.int .u8 42), .lit (.int .u8 50), .lit (.int .u8 38), .lit (.int .u8 29), .lit (.int .u8 17), .lit (.int .u8 4), .lit (.int .u8 62), .lit (.int .u8 47), .lit (.int .u8 59), .lit (.int .u8 36), .lit (.int .u8 45), .lit (.int .u8 43), .lit (.int .u8 51), .lit (.int .u8 22), .lit (.int .u8 53), .lit (.int .u8 39), .lit (.int .u8 33), .lit (.int .u8 30), .lit (.int .u8 24), .lit (.int .u8 18), .lit (.int .u8 12), .lit (.int .u8 5), .lit (.int .u8 63), .lit (.int .u8 55), .lit (.int .u8 48), .lit (.int .u8 27), .lit (.int .u8 60), .lit (.int .u8 41), .lit (.int .u8 37), .lit (.int .u8 16), .lit (.int .u8 46), .lit (.int .u8 35), .lit (.int .u8 44), .lit (.int .u8 21), .lit (.int .u8 52), .lit (.int .u8 32), .lit (.int .u8 23), .lit (.int .u8 11), .lit (.int .u8 54), .lit (.int .u8 26), .lit (.int .u8 40), .lit (.int .u8 15), .lit (.int .u8 34), .lit (.int .u8 20), .lit (.int .u8 31), .lit (.int .u8 10), .lit (.int .u8 25), .lit (.int .u8 14), .lit (.int .u8 19), .lit (.int .u8 9), .lit (.int .u8 13), .lit (.int .u8 8), .lit (.int .u8 7), .lit (.int .u8 6)]
def laid_internal_strconv_uint64pow10 {H : Type} : DataW H := .agg [.lit (.int .u64 1), .lit (.int .u64 10), .lit (.int .u64 100), .lit (.int .u64 1000), .lit (.int .u64 10000), .lit (.int .u64 100000), .lit (.int .u64 1000000), .lit (.int .u64 10000000), .lit (.int .u64 100000000), .lit (.int .u64 1000000000), .lit (.int .u64 10000000000), .lit (.int .u64 100000000000), .lit (.int .u64 1000000000000), .lit (.int .u64 10000000000000), .lit (.int .u64 100000000000000), .lit (.int .u64 1000000000000000), .lit (.int .u64 10000000000000000), .lit (.int .u64 100000000000000000), .lit (.int .u64 1000000000000000000), .lit (.int .u64 10000000000000000000)]

/-- 'thunklaw1.BigRight': WHATEVER THE INPUT: true; the input reads as it did. -/
def bigRightSpec : ChangeSpec := { name := "bigRight", fn := fun _ => fun
  | [d1, d2, d3, d4, d5, d6] => { results := [.lit (.bool true)], args := [d1, d2, d3, d4, d5, d6] }
  | _ => none }
def bigRightRow : OpenClaim := { program := "ytpnbhbacpkoddaadoor", sum := "71e8f1e33a7ef718ee2e9d5965c1da4aac19ffd55b054691663b6499b35d6816", func := "thunk/thunklaw1.BigRight", spec := "bigRight", inPlace := ["internal/abi.NoEscape", "internal/bytealg.MakeNoZero"], named := ["internal/strconv.uint64pow10", "math/bits.deBruijn32tab", "math/bits.deBruijn64tab"], apart := false, laid := [("math/bits.deBruijn32tab", laid_math_bits_deBruijn32tab), ("math/bits.deBruijn64tab", laid_math_bits_deBruijn64tab), ("internal/strconv.uint64pow10", laid_internal_strconv_uint64pow10)] }
def BigRightSaid : Prop := bigRightRow.holds Tryd.pinned (OpenSpec.ofChange bigRightSpec)

/-- ITS FALSE NEIGHBOUR: 'it returns false'. Refute it at one input. -/
def bigRightWrong : ChangeSpec := { name := "bigRight", fn := fun _ => fun
  | [d1, d2, d3, d4, d5, d6] => { results := [.lit (.bool false)], args := [d1, d2, d3, d4, d5, d6] }
  | _ => none }
def BigRightWrongFalsely : Prop := bigRightRow.holds Tryd.pinned (OpenSpec.ofChange bigRightWrong)

/-- 'thunklaw1.BigOrder': WHATEVER THE INPUT: true; the input reads as it did. -/
def bigOrderSpec : ChangeSpec := { name := "bigOrder", fn := fun _ => fun
  | [d1, d2, d3, d4, d5] => { results := [.lit (.bool true)], args := [d1, d2, d3, d4, d5] }
  | _ => none }
def bigOrderRow : OpenClaim := { program := "ytpnbhbacpkoddaadoor", sum := "71e8f1e33a7ef718ee2e9d5965c1da4aac19ffd55b054691663b6499b35d6816", func := "thunk/thunklaw1.BigOrder", spec := "bigOrder", inPlace := ["internal/abi.NoEscape", "internal/bytealg.MakeNoZero"], named := ["internal/strconv.uint64pow10", "math/bits.deBruijn32tab", "math/bits.deBruijn64tab"], apart := false, laid := [("math/bits.deBruijn32tab", laid_math_bits_deBruijn32tab), ("math/bits.deBruijn64tab", laid_math_bits_deBruijn64tab), ("internal/strconv.uint64pow10", laid_internal_strconv_uint64pow10)] }
def BigOrderSaid : Prop := bigOrderRow.holds Tryd.pinned (OpenSpec.ofChange bigOrderSpec)

/-- ITS FALSE NEIGHBOUR: 'it returns false'. Refute it at one input. -/
def bigOrderWrong : ChangeSpec := { name := "bigOrder", fn := fun _ => fun
  | [d1, d2, d3, d4, d5] => { results := [.lit (.bool false)], args := [d1, d2, d3, d4, d5] }
  | _ => none }
def BigOrderWrongFalsely : Prop := bigOrderRow.holds Tryd.pinned (OpenSpec.ofChange bigOrderWrong)

/-- 'thunklaw1.BigSigns': WHATEVER THE INPUT: true; the input reads as it did. -/
def bigSignsSpec : ChangeSpec := { name := "bigSigns", fn := fun _ => fun
  | [d1, d2] => { results := [.lit (.bool true)], args := [d1, d2] }
  | _ => none }
def bigSignsRow : OpenClaim := { program := "ytpnbhbacpkoddaadoor", sum := "71e8f1e33a7ef718ee2e9d5965c1da4aac19ffd55b054691663b6499b35d6816", func := "thunk/thunklaw1.BigSigns", spec := "bigSigns", inPlace := ["internal/abi.NoEscape", "internal/bytealg.MakeNoZero"], named := ["internal/strconv.uint64pow10", "math/bits.deBruijn32tab", "math/bits.deBruijn64tab"], apart := false, laid := [("math/bits.deBruijn32tab", laid_math_bits_deBruijn32tab), ("math/bits.deBruijn64tab", laid_math_bits_deBruijn64tab), ("internal/strconv.uint64pow10", laid_internal_strconv_uint64pow10)] }
def BigSignsSaid : Prop := bigSignsRow.holds Tryd.pinned (OpenSpec.ofChange bigSignsSpec)

/-- ITS FALSE NEIGHBOUR: 'it returns false'. Refute it at one input. -/
def bigSignsWrong : ChangeSpec := { name := "bigSigns", fn := fun _ => fun
  | [d1, d2] => { results := [.lit (.bool false)], args := [d1, d2] }
  | _ => none }
def BigSignsWrongFalsely : Prop := bigSignsRow.holds Tryd.pinned (OpenSpec.ofChange bigSignsWrong)

/-- 'thunklaw1.BigRules': WHATEVER THE INPUT: true; the input reads as it did. -/
def bigRulesSpec : ChangeSpec := { name := "bigRules", fn := fun _ => fun
  | [d1, d2, d3, d4, d5] => { results := [.lit (.bool true)], args := [d1, d2, d3, d4, d5] }
  | _ => none }
def bigRulesRow : OpenClaim := { program := "ytpnbhbacpkoddaadoor", sum := "71e8f1e33a7ef718ee2e9d5965c1da4aac19ffd55b054691663b6499b35d6816", func := "thunk/thunklaw1.BigRules", spec := "bigRules", inPlace := ["internal/abi.NoEscape", "internal/bytealg.MakeNoZero"], named := ["internal/strconv.uint64pow10", "math/bits.deBruijn32tab", "math/bits.deBruijn64tab"], apart := false, laid := [("math/bits.deBruijn32tab", laid_math_bits_deBruijn32tab), ("math/bits.deBruijn64tab", laid_math_bits_deBruijn64tab), ("internal/strconv.uint64pow10", laid_internal_strconv_uint64pow10)] }
def BigRulesSaid : Prop := bigRulesRow.holds Tryd.pinned (OpenSpec.ofChange bigRulesSpec)

/-- ITS FALSE NEIGHBOUR: 'it returns false'. Refute it at one input. -/
def bigRulesWrong : ChangeSpec := { name := "bigRules", fn := fun _ => fun
  | [d1, d2, d3, d4, d5] => { results := [.lit (.bool false)], args := [d1, d2, d3, d4, d5] }
  | _ => none }
def BigRulesWrongFalsely : Prop := bigRulesRow.holds Tryd.pinned (OpenSpec.ofChange bigRulesWrong)

/-- 'thunklaw1.BigEnds': WHATEVER THE INPUT: true; the input reads as it did. -/
def bigEndsSpec : ChangeSpec := { name := "bigEnds", fn := fun _ => fun
  | [d1, d2] => { results := [.lit (.bool true)], args := [d1, d2] }
  | _ => none }
def bigEndsRow : OpenClaim := { program := "ytpnbhbacpkoddaadoor", sum := "71e8f1e33a7ef718ee2e9d5965c1da4aac19ffd55b054691663b6499b35d6816", func := "thunk/thunklaw1.BigEnds", spec := "bigEnds", inPlace := ["internal/abi.NoEscape", "internal/bytealg.MakeNoZero"], named := ["internal/strconv.uint64pow10", "math/bits.deBruijn32tab", "math/bits.deBruijn64tab"], apart := false, laid := [("math/bits.deBruijn32tab", laid_math_bits_deBruijn32tab), ("math/bits.deBruijn64tab", laid_math_bits_deBruijn64tab), ("internal/strconv.uint64pow10", laid_internal_strconv_uint64pow10)] }
def BigEndsSaid : Prop := bigEndsRow.holds Tryd.pinned (OpenSpec.ofChange bigEndsSpec)

/-- ITS FALSE NEIGHBOUR: 'it returns false'. Refute it at one input. -/
def bigEndsWrong : ChangeSpec := { name := "bigEnds", fn := fun _ => fun
  | [d1, d2] => { results := [.lit (.bool false)], args := [d1, d2] }
  | _ => none }
def BigEndsWrongFalsely : Prop := bigEndsRow.holds Tryd.pinned (OpenSpec.ofChange bigEndsWrong)

/-- 'thunklaw1.BigQuo': WHATEVER THE INPUT: true; the input reads as it did. -/
def bigQuoSpec : ChangeSpec := { name := "bigQuo", fn := fun _ => fun
  | [d1, d2, d3, d4] => { results := [.lit (.bool true)], args := [d1, d2, d3, d4] }
  | _ => none }
def bigQuoRow : OpenClaim := { program := "ytpnbhbacpkoddaadoor", sum := "71e8f1e33a7ef718ee2e9d5965c1da4aac19ffd55b054691663b6499b35d6816", func := "thunk/thunklaw1.BigQuo", spec := "bigQuo", inPlace := ["internal/abi.NoEscape", "internal/bytealg.MakeNoZero"], named := ["internal/strconv.uint64pow10", "math/bits.deBruijn32tab", "math/bits.deBruijn64tab"], apart := false, laid := [("math/bits.deBruijn32tab", laid_math_bits_deBruijn32tab), ("math/bits.deBruijn64tab", laid_math_bits_deBruijn64tab), ("internal/strconv.uint64pow10", laid_internal_strconv_uint64pow10)] }
def BigQuoSaid : Prop := bigQuoRow.holds Tryd.pinned (OpenSpec.ofChange bigQuoSpec)

/-- ITS FALSE NEIGHBOUR: 'it returns false'. Refute it at one input. -/
def bigQuoWrong : ChangeSpec := { name := "bigQuo", fn := fun _ => fun
  | [d1, d2, d3, d4] => { results := [.lit (.bool false)], args := [d1, d2, d3, d4] }
  | _ => none }
def BigQuoWrongFalsely : Prop := bigQuoRow.holds Tryd.pinned (OpenSpec.ofChange bigQuoWrong)

/-- 'thunklaw1.BigPowers': WHATEVER THE INPUT: true; the input reads as it did. -/
def bigPowersSpec : ChangeSpec := { name := "bigPowers", fn := fun _ => fun
  | [d1, d2] => { results := [.lit (.bool true)], args := [d1, d2] }
  | _ => none }
def bigPowersRow : OpenClaim := { program := "ytpnbhbacpkoddaadoor", sum := "71e8f1e33a7ef718ee2e9d5965c1da4aac19ffd55b054691663b6499b35d6816", func := "thunk/thunklaw1.BigPowers", spec := "bigPowers", inPlace := ["internal/abi.NoEscape", "internal/bytealg.MakeNoZero"], named := ["internal/strconv.uint64pow10", "math/bits.deBruijn32tab", "math/bits.deBruijn64tab"], apart := false, laid := [("math/bits.deBruijn32tab", laid_math_bits_deBruijn32tab), ("math/bits.deBruijn64tab", laid_math_bits_deBruijn64tab), ("internal/strconv.uint64pow10", laid_internal_strconv_uint64pow10)] }
def BigPowersSaid : Prop := bigPowersRow.holds Tryd.pinned (OpenSpec.ofChange bigPowersSpec)

/-- ITS FALSE NEIGHBOUR: 'it returns false'. Refute it at one input. -/
def bigPowersWrong : ChangeSpec := { name := "bigPowers", fn := fun _ => fun
  | [d1, d2] => { results := [.lit (.bool false)], args := [d1, d2] }
  | _ => none }
def BigPowersWrongFalsely : Prop := bigPowersRow.holds Tryd.pinned (OpenSpec.ofChange bigPowersWrong)

/-- 'thunklaw1.BigTens': WHATEVER THE INPUT: true; the input reads as it did. -/
def bigTensSpec : ChangeSpec := { name := "bigTens", fn := fun _ => fun
  | [d1, d2] => { results := [.lit (.bool true)], args := [d1, d2] }
  | _ => none }
def bigTensRow : OpenClaim := { program := "ytpnbhbacpkoddaadoor", sum := "71e8f1e33a7ef718ee2e9d5965c1da4aac19ffd55b054691663b6499b35d6816", func := "thunk/thunklaw1.BigTens", spec := "bigTens", inPlace := ["internal/abi.NoEscape", "internal/bytealg.MakeNoZero"], recurses := true, named := ["internal/strconv.uint64pow10", "math/bits.deBruijn32tab", "math/bits.deBruijn64tab"], apart := false, laid := [("math/bits.deBruijn32tab", laid_math_bits_deBruijn32tab), ("math/bits.deBruijn64tab", laid_math_bits_deBruijn64tab), ("internal/strconv.uint64pow10", laid_internal_strconv_uint64pow10)] }
def BigTensSaid : Prop := bigTensRow.holds Tryd.pinned (OpenSpec.ofChange bigTensSpec)

/-- ITS FALSE NEIGHBOUR: 'it returns false'. Refute it at one input. -/
def bigTensWrong : ChangeSpec := { name := "bigTens", fn := fun _ => fun
  | [d1, d2] => { results := [.lit (.bool false)], args := [d1, d2] }
  | _ => none }
def BigTensWrongFalsely : Prop := bigTensRow.holds Tryd.pinned (OpenSpec.ofChange bigTensWrong)

/-- 'thunklaw1.BigAll': WHATEVER THE INPUT: true; the input reads as it did. -/
def bigAllSpec : ChangeSpec := { name := "bigAll", fn := fun _ => fun
  | [d1, d2, d3, d4] => { results := [.lit (.bool true)], args := [d1, d2, d3, d4] }
  | _ => none }
def bigAllRow : OpenClaim := { program := "ytpnbhbacpkoddaadoor", sum := "71e8f1e33a7ef718ee2e9d5965c1da4aac19ffd55b054691663b6499b35d6816", func := "thunk/thunklaw1.BigAll", spec := "bigAll", inPlace := ["internal/abi.NoEscape", "internal/bytealg.MakeNoZero"], named := ["internal/strconv.uint64pow10", "math/bits.deBruijn32tab", "math/bits.deBruijn64tab"], apart := false, laid := [("math/bits.deBruijn32tab", laid_math_bits_deBruijn32tab), ("math/bits.deBruijn64tab", laid_math_bits_deBruijn64tab), ("internal/strconv.uint64pow10", laid_internal_strconv_uint64pow10)] }
def BigAllSaid : Prop := bigAllRow.holds Tryd.pinned (OpenSpec.ofChange bigAllSpec)

/-- ITS FALSE NEIGHBOUR: 'it returns false'. Refute it at one input. -/
def bigAllWrong : ChangeSpec := { name := "bigAll", fn := fun _ => fun
  | [d1, d2, d3, d4] => { results := [.lit (.bool false)], args := [d1, d2, d3, d4] }
  | _ => none }
def BigAllWrongFalsely : Prop := bigAllRow.holds Tryd.pinned (OpenSpec.ofChange bigAllWrong)

/-- 'thunklaw1.BigSmall': WHATEVER THE INPUT: true; the input reads as it did. -/
def bigSmallSpec : ChangeSpec := { name := "bigSmall", fn := fun _ => fun
  | [d1, d2] => { results := [.lit (.bool true)], args := [d1, d2] }
  | _ => none }
def bigSmallRow : OpenClaim := { program := "ytpnbhbacpkoddaadoor", sum := "71e8f1e33a7ef718ee2e9d5965c1da4aac19ffd55b054691663b6499b35d6816", func := "thunk/thunklaw1.BigSmall", spec := "bigSmall", inPlace := ["internal/abi.NoEscape", "internal/bytealg.MakeNoZero"], recurses := true, named := ["internal/strconv.uint64pow10", "math/bits.deBruijn32tab", "math/bits.deBruijn64tab"], apart := false, laid := [("math/bits.deBruijn32tab", laid_math_bits_deBruijn32tab), ("math/bits.deBruijn64tab", laid_math_bits_deBruijn64tab), ("internal/strconv.uint64pow10", laid_internal_strconv_uint64pow10)] }
def BigSmallSaid : Prop := bigSmallRow.holds Tryd.pinned (OpenSpec.ofChange bigSmallSpec)

/-- ITS FALSE NEIGHBOUR: 'it returns false'. Refute it at one input. -/
def bigSmallWrong : ChangeSpec := { name := "bigSmall", fn := fun _ => fun
  | [d1, d2] => { results := [.lit (.bool false)], args := [d1, d2] }
  | _ => none }
def BigSmallWrongFalsely : Prop := bigSmallRow.holds Tryd.pinned (OpenSpec.ofChange bigSmallWrong)

/- THE SECOND FORM. 'bulk': how many values and letters a reading holds, each counted each time it is reached (what is shared counts as often as it is met; a slice's spare places count too). A statement '..UptoSaid' is the law's where the arguments, and the package variables that the reading takes, are together of bulk at most 1048576: NARROWER than '..Said'. Prove '..Said' where nothing that the law and all that it calls make is longer than what came in: it says more and counts as full. Else prove '..UptoSaid'. A law counts once. -/
mutual
def uptoBulk {H : Type} : DataW H → Nat
  | .lit (.string bytes) => bytes.length + 1
  | .lit _ => 1
  | .nil => 1
  | .ptr d => uptoBulk d + 1
  | .slice elems spare => uptoBulkAll elems + uptoBulkAll spare + 1
  | .agg parts => uptoBulkAll parts + 1
  | .iface _ d => uptoBulk d + 1
  | .map entries => uptoBulkEntries entries + 1
  | .held _ => 1
def uptoBulkAll {H : Type} : List (DataW H) → Nat
  | [] => 0
  | d :: r => uptoBulk d + uptoBulkAll r
def uptoBulkEntries {H : Type} : List (Lit × DataW H) → Nat
  | [] => 0
  | x :: r => uptoBulkEntry x + uptoBulkEntries r
def uptoBulkEntry {H : Type} : Lit × DataW H → Nat
  | (.string bytes, d) => bytes.length + uptoBulk d + 1
  | (_, d) => uptoBulk d + 1
 end
def uptoSmall : (H : Type) → List (DataW H) → Bool := fun _ ds => decide (uptoBulkAll ds ≤ 1048576)
def OpenSpec.upto (s : _root_.Go.ChangeSpec) : _root_.Go.OpenSpec := { _root_.Go.OpenSpec.ofChange s with cond := some uptoSmall }

/-- 'thunklaw1.BigRight', WHERE WHAT IT READS IS OF BULK AT MOST 1048576: true; the input reads as it did. -/
def bigRightUptoRow : OpenClaim := { program := "ytpnbhbacpkoddaadoor", sum := "71e8f1e33a7ef718ee2e9d5965c1da4aac19ffd55b054691663b6499b35d6816", func := "thunk/thunklaw1.BigRight", spec := "bigRight", inPlace := ["internal/abi.NoEscape", "internal/bytealg.MakeNoZero"], named := ["internal/strconv.uint64pow10", "math/bits.deBruijn32tab", "math/bits.deBruijn64tab"], apart := false, laid := [("math/bits.deBruijn32tab", laid_math_bits_deBruijn32tab), ("math/bits.deBruijn64tab", laid_math_bits_deBruijn64tab), ("internal/strconv.uint64pow10", laid_internal_strconv_uint64pow10)], narrowed := true }
def BigRightUptoSaid : Prop := bigRightUptoRow.holds Tryd.pinned (OpenSpec.upto bigRightSpec)

/-- 'thunklaw1.BigOrder', WHERE WHAT IT READS IS OF BULK AT MOST 1048576: true; the input reads as it did. -/
def bigOrderUptoRow : OpenClaim := { program := "ytpnbhbacpkoddaadoor", sum := "71e8f1e33a7ef718ee2e9d5965c1da4aac19ffd55b054691663b6499b35d6816", func := "thunk/thunklaw1.BigOrder", spec := "bigOrder", inPlace := ["internal/abi.NoEscape", "internal/bytealg.MakeNoZero"], named := ["internal/strconv.uint64pow10", "math/bits.deBruijn32tab", "math/bits.deBruijn64tab"], apart := false, laid := [("math/bits.deBruijn32tab", laid_math_bits_deBruijn32tab), ("math/bits.deBruijn64tab", laid_math_bits_deBruijn64tab), ("internal/strconv.uint64pow10", laid_internal_strconv_uint64pow10)], narrowed := true }
def BigOrderUptoSaid : Prop := bigOrderUptoRow.holds Tryd.pinned (OpenSpec.upto bigOrderSpec)

/-- 'thunklaw1.BigSigns', WHERE WHAT IT READS IS OF BULK AT MOST 1048576: true; the input reads as it did. -/
def bigSignsUptoRow : OpenClaim := { program := "ytpnbhbacpkoddaadoor", sum := "71e8f1e33a7ef718ee2e9d5965c1da4aac19ffd55b054691663b6499b35d6816", func := "thunk/thunklaw1.BigSigns", spec := "bigSigns", inPlace := ["internal/abi.NoEscape", "internal/bytealg.MakeNoZero"], named := ["internal/strconv.uint64pow10", "math/bits.deBruijn32tab", "math/bits.deBruijn64tab"], apart := false, laid := [("math/bits.deBruijn32tab", laid_math_bits_deBruijn32tab), ("math/bits.deBruijn64tab", laid_math_bits_deBruijn64tab), ("internal/strconv.uint64pow10", laid_internal_strconv_uint64pow10)], narrowed := true }
def BigSignsUptoSaid : Prop := bigSignsUptoRow.holds Tryd.pinned (OpenSpec.upto bigSignsSpec)

/-- 'thunklaw1.BigRules', WHERE WHAT IT READS IS OF BULK AT MOST 1048576: true; the input reads as it did. -/
def bigRulesUptoRow : OpenClaim := { program := "ytpnbhbacpkoddaadoor", sum := "71e8f1e33a7ef718ee2e9d5965c1da4aac19ffd55b054691663b6499b35d6816", func := "thunk/thunklaw1.BigRules", spec := "bigRules", inPlace := ["internal/abi.NoEscape", "internal/bytealg.MakeNoZero"], named := ["internal/strconv.uint64pow10", "math/bits.deBruijn32tab", "math/bits.deBruijn64tab"], apart := false, laid := [("math/bits.deBruijn32tab", laid_math_bits_deBruijn32tab), ("math/bits.deBruijn64tab", laid_math_bits_deBruijn64tab), ("internal/strconv.uint64pow10", laid_internal_strconv_uint64pow10)], narrowed := true }
def BigRulesUptoSaid : Prop := bigRulesUptoRow.holds Tryd.pinned (OpenSpec.upto bigRulesSpec)

/-- 'thunklaw1.BigEnds', WHERE WHAT IT READS IS OF BULK AT MOST 1048576: true; the input reads as it did. -/
def bigEndsUptoRow : OpenClaim := { program := "ytpnbhbacpkoddaadoor", sum := "71e8f1e33a7ef718ee2e9d5965c1da4aac19ffd55b054691663b6499b35d6816", func := "thunk/thunklaw1.BigEnds", spec := "bigEnds", inPlace := ["internal/abi.NoEscape", "internal/bytealg.MakeNoZero"], named := ["internal/strconv.uint64pow10", "math/bits.deBruijn32tab", "math/bits.deBruijn64tab"], apart := false, laid := [("math/bits.deBruijn32tab", laid_math_bits_deBruijn32tab), ("math/bits.deBruijn64tab", laid_math_bits_deBruijn64tab), ("internal/strconv.uint64pow10", laid_internal_strconv_uint64pow10)], narrowed := true }
def BigEndsUptoSaid : Prop := bigEndsUptoRow.holds Tryd.pinned (OpenSpec.upto bigEndsSpec)

/-- 'thunklaw1.BigQuo', WHERE WHAT IT READS IS OF BULK AT MOST 1048576: true; the input reads as it did. -/
def bigQuoUptoRow : OpenClaim := { program := "ytpnbhbacpkoddaadoor", sum := "71e8f1e33a7ef718ee2e9d5965c1da4aac19ffd55b054691663b6499b35d6816", func := "thunk/thunklaw1.BigQuo", spec := "bigQuo", inPlace := ["internal/abi.NoEscape", "internal/bytealg.MakeNoZero"], named := ["internal/strconv.uint64pow10", "math/bits.deBruijn32tab", "math/bits.deBruijn64tab"], apart := false, laid := [("math/bits.deBruijn32tab", laid_math_bits_deBruijn32tab), ("math/bits.deBruijn64tab", laid_math_bits_deBruijn64tab), ("internal/strconv.uint64pow10", laid_internal_strconv_uint64pow10)], narrowed := true }
def BigQuoUptoSaid : Prop := bigQuoUptoRow.holds Tryd.pinned (OpenSpec.upto bigQuoSpec)

/-- 'thunklaw1.BigPowers', WHERE WHAT IT READS IS OF BULK AT MOST 1048576: true; the input reads as it did. -/
def bigPowersUptoRow : OpenClaim := { program := "ytpnbhbacpkoddaadoor", sum := "71e8f1e33a7ef718ee2e9d5965c1da4aac19ffd55b054691663b6499b35d6816", func := "thunk/thunklaw1.BigPowers", spec := "bigPowers", inPlace := ["internal/abi.NoEscape", "internal/bytealg.MakeNoZero"], named := ["internal/strconv.uint64pow10", "math/bits.deBruijn32tab", "math/bits.deBruijn64tab"], apart := false, laid := [("math/bits.deBruijn32tab", laid_math_bits_deBruijn32tab), ("math/bits.deBruijn64tab", laid_math_bits_deBruijn64tab), ("internal/strconv.uint64pow10", laid_internal_strconv_uint64pow10)], narrowed := true }
def BigPowersUptoSaid : Prop := bigPowersUptoRow.holds Tryd.pinned (OpenSpec.upto bigPowersSpec)

/-- 'thunklaw1.BigTens', WHERE WHAT IT READS IS OF BULK AT MOST 1048576: true; the input reads as it did. -/
def bigTensUptoRow : OpenClaim := { program := "ytpnbhbacpkoddaadoor", sum := "71e8f1e33a7ef718ee2e9d5965c1da4aac19ffd55b054691663b6499b35d6816", func := "thunk/thunklaw1.BigTens", spec := "bigTens", inPlace := ["internal/abi.NoEscape", "internal/bytealg.MakeNoZero"], recurses := true, named := ["internal/strconv.uint64pow10", "math/bits.deBruijn32tab", "math/bits.deBruijn64tab"], apart := false, laid := [("math/bits.deBruijn32tab", laid_math_bits_deBruijn32tab), ("math/bits.deBruijn64tab", laid_math_bits_deBruijn64tab), ("internal/strconv.uint64pow10", laid_internal_strconv_uint64pow10)], narrowed := true }
def BigTensUptoSaid : Prop := bigTensUptoRow.holds Tryd.pinned (OpenSpec.upto bigTensSpec)

/-- 'thunklaw1.BigAll', WHERE WHAT IT READS IS OF BULK AT MOST 1048576: true; the input reads as it did. -/
def bigAllUptoRow : OpenClaim := { program := "ytpnbhbacpkoddaadoor", sum := "71e8f1e33a7ef718ee2e9d5965c1da4aac19ffd55b054691663b6499b35d6816", func := "thunk/thunklaw1.BigAll", spec := "bigAll", inPlace := ["internal/abi.NoEscape", "internal/bytealg.MakeNoZero"], named := ["internal/strconv.uint64pow10", "math/bits.deBruijn32tab", "math/bits.deBruijn64tab"], apart := false, laid := [("math/bits.deBruijn32tab", laid_math_bits_deBruijn32tab), ("math/bits.deBruijn64tab", laid_math_bits_deBruijn64tab), ("internal/strconv.uint64pow10", laid_internal_strconv_uint64pow10)], narrowed := true }
def BigAllUptoSaid : Prop := bigAllUptoRow.holds Tryd.pinned (OpenSpec.upto bigAllSpec)

/-- 'thunklaw1.BigSmall', WHERE WHAT IT READS IS OF BULK AT MOST 1048576: true; the input reads as it did. -/
def bigSmallUptoRow : OpenClaim := { program := "ytpnbhbacpkoddaadoor", sum := "71e8f1e33a7ef718ee2e9d5965c1da4aac19ffd55b054691663b6499b35d6816", func := "thunk/thunklaw1.BigSmall", spec := "bigSmall", inPlace := ["internal/abi.NoEscape", "internal/bytealg.MakeNoZero"], recurses := true, named := ["internal/strconv.uint64pow10", "math/bits.deBruijn32tab", "math/bits.deBruijn64tab"], apart := false, laid := [("math/bits.deBruijn32tab", laid_math_bits_deBruijn32tab), ("math/bits.deBruijn64tab", laid_math_bits_deBruijn64tab), ("internal/strconv.uint64pow10", laid_internal_strconv_uint64pow10)], narrowed := true }
def BigSmallUptoSaid : Prop := bigSmallUptoRow.holds Tryd.pinned (OpenSpec.upto bigSmallSpec)

end Rows
end Go.Proofs.YtpnbhbacpkoddaaDoor
