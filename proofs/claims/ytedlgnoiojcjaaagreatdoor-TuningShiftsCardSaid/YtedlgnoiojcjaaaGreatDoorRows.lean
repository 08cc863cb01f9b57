/-
  NARROWER THAN 'FOR EVERY INPUT', by the rows' own cells (each row's printed sentence says how): TuningLaws: laid · TuningShifts: laid · TuningBlends: laid · TuningChecks: laid · TuningFrom: laid · TuningJust: laid · TuningPrimes: laid · GeneratorForms: laid.
  DERIVED. THE GIVEN ROWS OF THIS SEAT. 8 by the template 'for every input the law returns true; each argument reads behind the call as it read before'; 0 by the template 'total and deterministic' (their statements: YtedlgnoiojcjaaaGreatDoorTotals.lean).
  GIVEN WITH THE SEED: the statements are not yours to turn. If you find one false, say at which input.
  Laid BY PROGRAM, IN A SANDBOX (cutbox-rows.mjs): the forced cells as the released guide's own fill.sh prints them over the translation 2c6bb84a6a3b9712… (all of the seat's roots in one cut). By AI agents, Wed Nov 11 2026. No macro, syntax, notation, axiom, sorry.
-/
import Derived.Test.YtedlgnoiojcjaaaGreatDoorChecked
import GoSem.Claim
import GoSem.ClaimJoined
import GoSem.ClaimMapViews
import Derived.JoinedTies
import Derived.KernelRfl
namespace Go.Proofs.YtedlgnoiojcjaaaGreatDoor
/- THE CELL 'sum', in the pinned program and in every row, IS THE sha256 OF THE DUMP (.gsa) THAT YtedlgnoiojcjaaaGreatDoorProg.lean LOADS. Nothing in Lean hashes anything: it is a label: what it is worth is what the hold of that sum in a sandbox is worth. -/
noncomputable def Tryz.pinned : Pinned := { name := "ytedlgnoiojcjaaagreatdoor", sum := "2c6bb84a6a3b971281a74043137702be8d3b05be29298bea4ce02b1f699d23a5", checked := Tryz.checked }
namespace Rows
def none {H : Type} : Left H := { results := [], args := [] }

/- WHAT THE LISTED PACKAGE-LEVEL VARIABLES READ AS WHEN THE CALL BEGINS. Each datum BY PROGRAM (the guide's laid-datum.mjs) off the statement by which the dump's own 'gosem.cut.vars' lays the variable. In a bare row this is a premise. The card (YtedlgnoiojcjaaaGreatDoorCards.lean) ties it to the program's text. -/
def laid_math_bits_deBruijn32tab {H : Type} : DataW H := .agg [.lit (.int .u8 0), .lit (.int .u8 1), .lit (.int .u8 28), .lit (.int .u8 2), .lit (.int .u8 29), .lit (.int .u8 14), .lit (.int .u8 24), .lit (.int .u8 3), .lit (.int .u8 30), .lit (.int .u8 22), .lit (.int .u8 20), .lit (.int .u8 15), .lit (.int .u8 25), .lit (.int .u8 17), .lit (.int .u8 4), .lit (.int .u8 8), .lit (.int .u8 31), .lit (.int .u8 27), .lit (.int .u8 13), .lit (.int .u8 23), .lit (.int .u8 21), .lit (.int .u8 19), .lit (.int .u8 16), .lit (.int .u8 7), .lit (.int .u8 26), .lit (.int .u8 12), .lit (.int .u8 18), .lit (.int .u8 6), .lit (.int .u8 11), .lit (.int .u8 5), .lit (.int .u8 10), .lit (.int .u8 9)]
def laid_math_bits_deBruijn64tab {H : Type} : DataW H := .agg [.lit (.int .u8 0), .lit (.int .u8 1), .lit (.int .u8 56), .lit (.int .u8 2), .lit (.int .u8 57), .lit (.int .u8 49), .lit (.int .u8 28), .lit (.int .u8 3), .lit (.int .u8 61), .lit (.int .u8 58), .lit (.int .u8 42), .lit (.int .u8 50), .lit (.int .u8 38), .lit (.int .u8 29), .lit (.int .u8 17), .lit (.int .u8 4), .lit (.int .u8 62), .lit (.int .u8 47), .lit (.int .u8 59), .lit (.int .u8 36), .lit (.int .u8 45), .lit (.int .u8 43), .lit (.int .u8 51), .lit (.int .u8 22), .lit (.int .u8 53), .lit (.int .u8 39), .lit (.int .u8 33), .lit (.int .u8 30), .lit (.int .u8 24), .lit (.int .u8 18), .lit (.int .u8 12), .lit (.int .u8 5), .lit (.int .u8 63), .lit (.int .u8 55), .lit (.int .u8 48), .lit (.int .u8 27), .lit (.int .u8 60), .lit (.int .u8 41), .lit (.int .u8 37), .lit (.int .u8 16), .lit (.int .u8 46), .lit (.int .u8 35), .lit (.int .u8 44), .lit (.int .u8 21), .lit (.int .u8 52), .lit (.int .u8 32), .lit (.int .u8 23), .lit (.int .u8 11), .lit (.int .u8 54), .lit (.int .u8 26), .lit (.int .u8 40), .lit (.int .u8 15), .lit (.int .u8 34), .lit (.int .u8 20), .lit (.int .u8 31), .lit (.int .u8 10), .lit (.int .u8 25), .lit (.int .u8 14), .lit (.int .u8 19), .lit (.int .u8 9), .lit (.int .u8 13), .lit (.int .u8 8), .lit (.int .u8 7), .lit (.int .u8 6)]
def laid_internal_strconv_uint64pow10 {H : Type} : DataW H := .agg [.lit (.int .u64 1), .lit (.int .u64 10), .lit (.int .u64 100), .lit (.int .u64 1000), .lit (.int .u64 10000), .lit (.int .u64 100000), .lit (.int .u64 1000000), .lit (.int .u64 10000000), .lit (.int .u64 100000000), .lit (.int .u64 1000000000), .lit (.int .u64 10000000000), .lit (.int .u64 100000000000), .lit (.int .u64 1000000000000), .lit (.int .u64 10000000000000), .lit (.int .u64 100000000000000), .lit (.int .u64 1000000000000000), .lit (.int .u64 10000000000000000), .lit (.int .u64 100000000000000000), .lit (.int .u64 1000000000000000000), .lit (.int .u64 10000000000000000000)]
def laid_strconv_ErrRange {H : Type} : DataW H := .iface "*errors.errorString" (.ptr (.agg [.lit (.string [118, 97, 108, 117, 101, 32, 111, 117, 116, 32, 111, 102, 32, 114, 97, 110, 103, 101])]))
def laid_strconv_ErrSyntax {H : Type} : DataW H := .iface "*errors.errorString" (.ptr (.agg [.lit (.string [105, 110, 118, 97, 108, 105, 100, 32, 115, 121, 110, 116, 97, 120])]))

/-- 'schismalaw24.TuningLaws': WHATEVER THE INPUT: true; the input reads as it did. -/
def tuningLawsSpec : ChangeSpec := { name := "tuningLaws", fn := fun _ => fun
  | [d1, d2, d3] => { results := [.lit (.bool true)], args := [d1, d2, d3] }
  | _ => none }
def tuningLawsRow : OpenClaim := { program := "ytedlgnoiojcjaaagreatdoor", sum := "2c6bb84a6a3b971281a74043137702be8d3b05be29298bea4ce02b1f699d23a5", func := "schisma/schismalaw24.TuningLaws", spec := "tuningLaws", inPlace := ["internal/abi.NoEscape", "internal/bytealg.MakeNoZero"], unfollowed := true, recurses := true, named := ["internal/strconv.uint64pow10", "math/bits.deBruijn32tab", "math/bits.deBruijn64tab", "strconv.ErrSyntax", "strconv.ErrRange"], apart := false, laid := [("math/bits.deBruijn32tab", laid_math_bits_deBruijn32tab), ("math/bits.deBruijn64tab", laid_math_bits_deBruijn64tab), ("internal/strconv.uint64pow10", laid_internal_strconv_uint64pow10), ("strconv.ErrRange", laid_strconv_ErrRange), ("strconv.ErrSyntax", laid_strconv_ErrSyntax)] }
def TuningLawsSaid : Prop := tuningLawsRow.holds Tryz.pinned (OpenSpec.ofChange tuningLawsSpec)

/-- ITS FALSE NEIGHBOUR: 'it returns false'. Refute it at one input. -/
def tuningLawsWrong : ChangeSpec := { name := "tuningLaws", fn := fun _ => fun
  | [d1, d2, d3] => { results := [.lit (.bool false)], args := [d1, d2, d3] }
  | _ => none }
def TuningLawsWrongFalsely : Prop := tuningLawsRow.holds Tryz.pinned (OpenSpec.ofChange tuningLawsWrong)

/-- 'schismalaw24.TuningShifts': WHATEVER THE INPUT: true; the input reads as it did. -/
def tuningShiftsSpec : ChangeSpec := { name := "tuningShifts", fn := fun _ => fun
  | [d1, d2, d3] => { results := [.lit (.bool true)], args := [d1, d2, d3] }
  | _ => none }
def tuningShiftsRow : OpenClaim := { program := "ytedlgnoiojcjaaagreatdoor", sum := "2c6bb84a6a3b971281a74043137702be8d3b05be29298bea4ce02b1f699d23a5", func := "schisma/schismalaw24.TuningShifts", spec := "tuningShifts", inPlace := ["internal/abi.NoEscape", "internal/bytealg.MakeNoZero"], unfollowed := true, recurses := true, named := ["internal/strconv.uint64pow10", "math/bits.deBruijn32tab", "math/bits.deBruijn64tab", "strconv.ErrSyntax", "strconv.ErrRange"], apart := false, laid := [("math/bits.deBruijn32tab", laid_math_bits_deBruijn32tab), ("math/bits.deBruijn64tab", laid_math_bits_deBruijn64tab), ("internal/strconv.uint64pow10", laid_internal_strconv_uint64pow10), ("strconv.ErrRange", laid_strconv_ErrRange), ("strconv.ErrSyntax", laid_strconv_ErrSyntax)] }
def TuningShiftsSaid : Prop := tuningShiftsRow.holds Tryz.pinned (OpenSpec.ofChange tuningShiftsSpec)

/-- ITS FALSE NEIGHBOUR: 'it returns false'. Refute it at one input. -/
def tuningShiftsWrong : ChangeSpec := { name := "tuningShifts", fn := fun _ => fun
  | [d1, d2, d3] => { results := [.lit (.bool false)], args := [d1, d2, d3] }
  | _ => none }
def TuningShiftsWrongFalsely : Prop := tuningShiftsRow.holds Tryz.pinned (OpenSpec.ofChange tuningShiftsWrong)

/-- 'schismalaw24.TuningBlends': WHATEVER THE INPUT: true; the input reads as it did. -/
def tuningBlendsSpec : ChangeSpec := { name := "tuningBlends", fn := fun _ => fun
  | [d1, d2, d3] => { results := [.lit (.bool true)], args := [d1, d2, d3] }
  | _ => none }
def tuningBlendsRow : OpenClaim := { program := "ytedlgnoiojcjaaagreatdoor", sum := "2c6bb84a6a3b971281a74043137702be8d3b05be29298bea4ce02b1f699d23a5", func := "schisma/schismalaw24.TuningBlends", spec := "tuningBlends", inPlace := ["internal/abi.NoEscape", "internal/bytealg.MakeNoZero"], unfollowed := true, recurses := true, named := ["internal/strconv.uint64pow10", "math/bits.deBruijn32tab", "math/bits.deBruijn64tab", "strconv.ErrSyntax", "strconv.ErrRange"], apart := false, laid := [("math/bits.deBruijn32tab", laid_math_bits_deBruijn32tab), ("math/bits.deBruijn64tab", laid_math_bits_deBruijn64tab), ("internal/strconv.uint64pow10", laid_internal_strconv_uint64pow10), ("strconv.ErrRange", laid_strconv_ErrRange), ("strconv.ErrSyntax", laid_strconv_ErrSyntax)] }
def TuningBlendsSaid : Prop := tuningBlendsRow.holds Tryz.pinned (OpenSpec.ofChange tuningBlendsSpec)

/-- ITS FALSE NEIGHBOUR: 'it returns false'. Refute it at one input. -/
def tuningBlendsWrong : ChangeSpec := { name := "tuningBlends", fn := fun _ => fun
  | [d1, d2, d3] => { results := [.lit (.bool false)], args := [d1, d2, d3] }
  | _ => none }
def TuningBlendsWrongFalsely : Prop := tuningBlendsRow.holds Tryz.pinned (OpenSpec.ofChange tuningBlendsWrong)

/-- 'schismalaw24.TuningChecks': WHATEVER THE INPUT: true; the input reads as it did. -/
def tuningChecksSpec : ChangeSpec := { name := "tuningChecks", fn := fun _ => fun
  | [d1, d2] => { results := [.lit (.bool true)], args := [d1, d2] }
  | _ => none }
def tuningChecksRow : OpenClaim := { program := "ytedlgnoiojcjaaagreatdoor", sum := "2c6bb84a6a3b971281a74043137702be8d3b05be29298bea4ce02b1f699d23a5", func := "schisma/schismalaw24.TuningChecks", spec := "tuningChecks", inPlace := ["internal/abi.NoEscape", "internal/bytealg.MakeNoZero"], unfollowed := true, recurses := true, named := ["internal/strconv.uint64pow10", "math/bits.deBruijn32tab", "math/bits.deBruijn64tab", "strconv.ErrSyntax", "strconv.ErrRange"], apart := false, laid := [("math/bits.deBruijn32tab", laid_math_bits_deBruijn32tab), ("math/bits.deBruijn64tab", laid_math_bits_deBruijn64tab), ("internal/strconv.uint64pow10", laid_internal_strconv_uint64pow10), ("strconv.ErrRange", laid_strconv_ErrRange), ("strconv.ErrSyntax", laid_strconv_ErrSyntax)] }
def TuningChecksSaid : Prop := tuningChecksRow.holds Tryz.pinned (OpenSpec.ofChange tuningChecksSpec)

/-- ITS FALSE NEIGHBOUR: 'it returns false'. Refute it at one input. -/
def tuningChecksWrong : ChangeSpec := { name := "tuningChecks", fn := fun _ => fun
  | [d1, d2] => { results := [.lit (.bool false)], args := [d1, d2] }
  | _ => none }
def TuningChecksWrongFalsely : Prop := tuningChecksRow.holds Tryz.pinned (OpenSpec.ofChange tuningChecksWrong)

/-- 'schismalaw24.TuningFrom': WHATEVER THE INPUT: true; the input reads as it did. -/
def tuningFromSpec : ChangeSpec := { name := "tuningFrom", fn := fun _ => fun
  | [d1, d2, d3] => { results := [.lit (.bool true)], args := [d1, d2, d3] }
  | _ => none }
def tuningFromRow : OpenClaim := { program := "ytedlgnoiojcjaaagreatdoor", sum := "2c6bb84a6a3b971281a74043137702be8d3b05be29298bea4ce02b1f699d23a5", func := "schisma/schismalaw24.TuningFrom", spec := "tuningFrom", inPlace := ["internal/abi.NoEscape", "internal/bytealg.MakeNoZero"], unfollowed := true, recurses := true, named := ["internal/strconv.uint64pow10", "math/bits.deBruijn32tab", "math/bits.deBruijn64tab", "strconv.ErrSyntax", "strconv.ErrRange"], apart := false, laid := [("math/bits.deBruijn32tab", laid_math_bits_deBruijn32tab), ("math/bits.deBruijn64tab", laid_math_bits_deBruijn64tab), ("internal/strconv.uint64pow10", laid_internal_strconv_uint64pow10), ("strconv.ErrRange", laid_strconv_ErrRange), ("strconv.ErrSyntax", laid_strconv_ErrSyntax)] }
def TuningFromSaid : Prop := tuningFromRow.holds Tryz.pinned (OpenSpec.ofChange tuningFromSpec)

/-- ITS FALSE NEIGHBOUR: 'it returns false'. Refute it at one input. -/
def tuningFromWrong : ChangeSpec := { name := "tuningFrom", fn := fun _ => fun
  | [d1, d2, d3] => { results := [.lit (.bool false)], args := [d1, d2, d3] }
  | _ => none }
def TuningFromWrongFalsely : Prop := tuningFromRow.holds Tryz.pinned (OpenSpec.ofChange tuningFromWrong)

/-- 'schismalaw24.TuningJust': WHATEVER THE INPUT: true; the input reads as it did. -/
def tuningJustSpec : ChangeSpec := { name := "tuningJust", fn := fun _ => fun
  | [d1, d2] => { results := [.lit (.bool true)], args := [d1, d2] }
  | _ => none }
def tuningJustRow : OpenClaim := { program := "ytedlgnoiojcjaaagreatdoor", sum := "2c6bb84a6a3b971281a74043137702be8d3b05be29298bea4ce02b1f699d23a5", func := "schisma/schismalaw24.TuningJust", spec := "tuningJust", inPlace := ["internal/abi.NoEscape", "internal/bytealg.MakeNoZero"], unfollowed := true, recurses := true, named := ["internal/strconv.uint64pow10", "math/bits.deBruijn32tab", "math/bits.deBruijn64tab", "strconv.ErrSyntax", "strconv.ErrRange"], apart := false, laid := [("math/bits.deBruijn32tab", laid_math_bits_deBruijn32tab), ("math/bits.deBruijn64tab", laid_math_bits_deBruijn64tab), ("internal/strconv.uint64pow10", laid_internal_strconv_uint64pow10), ("strconv.ErrRange", laid_strconv_ErrRange), ("strconv.ErrSyntax", laid_strconv_ErrSyntax)] }
def TuningJustSaid : Prop := tuningJustRow.holds Tryz.pinned (OpenSpec.ofChange tuningJustSpec)

/-- ITS FALSE NEIGHBOUR: 'it returns false'. Refute it at one input. -/
def tuningJustWrong : ChangeSpec := { name := "tuningJust", fn := fun _ => fun
  | [d1, d2] => { results := [.lit (.bool false)], args := [d1, d2] }
  | _ => none }
def TuningJustWrongFalsely : Prop := tuningJustRow.holds Tryz.pinned (OpenSpec.ofChange tuningJustWrong)

/-- 'schismalaw24.TuningPrimes': WHATEVER THE INPUT: true; the input reads as it did. -/
def tuningPrimesSpec : ChangeSpec := { name := "tuningPrimes", fn := fun _ => fun
  | [d] => { results := [.lit (.bool true)], args := [d] }
  | _ => none }
def tuningPrimesRow : OpenClaim := { program := "ytedlgnoiojcjaaagreatdoor", sum := "2c6bb84a6a3b971281a74043137702be8d3b05be29298bea4ce02b1f699d23a5", func := "schisma/schismalaw24.TuningPrimes", spec := "tuningPrimes", inPlace := ["internal/abi.NoEscape", "internal/bytealg.MakeNoZero"], unfollowed := true, recurses := true, named := ["internal/strconv.uint64pow10", "math/bits.deBruijn32tab", "math/bits.deBruijn64tab", "strconv.ErrSyntax", "strconv.ErrRange"], apart := false, laid := [("math/bits.deBruijn32tab", laid_math_bits_deBruijn32tab), ("math/bits.deBruijn64tab", laid_math_bits_deBruijn64tab), ("internal/strconv.uint64pow10", laid_internal_strconv_uint64pow10), ("strconv.ErrRange", laid_strconv_ErrRange), ("strconv.ErrSyntax", laid_strconv_ErrSyntax)] }
def TuningPrimesSaid : Prop := tuningPrimesRow.holds Tryz.pinned (OpenSpec.ofChange tuningPrimesSpec)

/-- ITS FALSE NEIGHBOUR: 'it returns false'. Refute it at one input. -/
def tuningPrimesWrong : ChangeSpec := { name := "tuningPrimes", fn := fun _ => fun
  | [d] => { results := [.lit (.bool false)], args := [d] }
  | _ => none }
def TuningPrimesWrongFalsely : Prop := tuningPrimesRow.holds Tryz.pinned (OpenSpec.ofChange tuningPrimesWrong)

/-- 'schismalaw20.GeneratorForms': WHATEVER THE INPUT: true; the input reads as it did. -/
def generatorFormsSpec : ChangeSpec := { name := "generatorForms", fn := fun _ => fun
  | [d1, d2] => { results := [.lit (.bool true)], args := [d1, d2] }
  | _ => none }
def generatorFormsRow : OpenClaim := { program := "ytedlgnoiojcjaaagreatdoor", sum := "2c6bb84a6a3b971281a74043137702be8d3b05be29298bea4ce02b1f699d23a5", func := "schisma/schismalaw20.GeneratorForms", spec := "generatorForms", unfollowed := true, recurses := true, named := ["internal/strconv.uint64pow10", "math/bits.deBruijn32tab", "math/bits.deBruijn64tab", "strconv.ErrSyntax", "strconv.ErrRange"], apart := false, laid := [("math/bits.deBruijn32tab", laid_math_bits_deBruijn32tab), ("math/bits.deBruijn64tab", laid_math_bits_deBruijn64tab), ("internal/strconv.uint64pow10", laid_internal_strconv_uint64pow10), ("strconv.ErrRange", laid_strconv_ErrRange), ("strconv.ErrSyntax", laid_strconv_ErrSyntax)] }
def GeneratorFormsSaid : Prop := generatorFormsRow.holds Tryz.pinned (OpenSpec.ofChange generatorFormsSpec)

/-- ITS FALSE NEIGHBOUR: 'it returns false'. Refute it at one input. -/
def generatorFormsWrong : ChangeSpec := { name := "generatorForms", fn := fun _ => fun
  | [d1, d2] => { results := [.lit (.bool false)], args := [d1, d2] }
  | _ => none }
def GeneratorFormsWrongFalsely : Prop := generatorFormsRow.holds Tryz.pinned (OpenSpec.ofChange generatorFormsWrong)

/- THE SECOND FORM. 'bulk': how many values and letters a reading holds, each counted each time it is reached (what is shared counts as often as it is met; a slice's spare places count too). A statement '..UptoSaid' is the law's where the arguments, and the package variables that the reading takes, are together of bulk at most 1048576: NARROWER than '..Said'. Prove '..Said' where nothing that the law and all that it calls make is longer than what came in: it says more and counts as full. Else prove '..UptoSaid'. A law counts once. -/
mutual
def uptoBulk {H : Type} : DataW H → Nat
  | .lit (.string bytes) => bytes.length + 1
  | .lit _ => 1
  | .nil => 1
  | .ptr d => uptoBulk d + 1
  | .slice elems spare => uptoBulkAll elems + uptoBulkAll spare + 1
  | .agg parts => uptoBulkAll parts + 1
  | .iface _ d => uptoBulk d + 1
  | .map entries => uptoBulkEntries entries + 1
  | .held _ => 1
def uptoBulkAll {H : Type} : List (DataW H) → Nat
  | [] => 0
  | d :: r => uptoBulk d + uptoBulkAll r
def uptoBulkEntries {H : Type} : List (Lit × DataW H) → Nat
  | [] => 0
  | x :: r => uptoBulkEntry x + uptoBulkEntries r
def uptoBulkEntry {H : Type} : Lit × DataW H → Nat
  | (.string bytes, d) => bytes.length + uptoBulk d + 1
  | (_, d) => uptoBulk d + 1
 end
def uptoSmall : (H : Type) → List (DataW H) → Bool := fun _ ds => decide (uptoBulkAll ds ≤ 1048576)
def OpenSpec.upto (s : _root_.Go.ChangeSpec) : _root_.Go.OpenSpec := { _root_.Go.OpenSpec.ofChange s with cond := some uptoSmall }

/-- 'schismalaw24.TuningLaws', WHERE WHAT IT READS IS OF BULK AT MOST 1048576: true; the input reads as it did. -/
def tuningLawsUptoRow : OpenClaim := { program := "ytedlgnoiojcjaaagreatdoor", sum := "2c6bb84a6a3b971281a74043137702be8d3b05be29298bea4ce02b1f699d23a5", func := "schisma/schismalaw24.TuningLaws", spec := "tuningLaws", inPlace := ["internal/abi.NoEscape", "internal/bytealg.MakeNoZero"], unfollowed := true, recurses := true, named := ["internal/strconv.uint64pow10", "math/bits.deBruijn32tab", "math/bits.deBruijn64tab", "strconv.ErrSyntax", "strconv.ErrRange"], apart := false, laid := [("math/bits.deBruijn32tab", laid_math_bits_deBruijn32tab), ("math/bits.deBruijn64tab", laid_math_bits_deBruijn64tab), ("internal/strconv.uint64pow10", laid_internal_strconv_uint64pow10), ("strconv.ErrRange", laid_strconv_ErrRange), ("strconv.ErrSyntax", laid_strconv_ErrSyntax)], narrowed := true }
def TuningLawsUptoSaid : Prop := tuningLawsUptoRow.holds Tryz.pinned (OpenSpec.upto tuningLawsSpec)

/-- 'schismalaw24.TuningShifts', WHERE WHAT IT READS IS OF BULK AT MOST 1048576: true; the input reads as it did. -/
def tuningShiftsUptoRow : OpenClaim := { program := "ytedlgnoiojcjaaagreatdoor", sum := "2c6bb84a6a3b971281a74043137702be8d3b05be29298bea4ce02b1f699d23a5", func := "schisma/schismalaw24.TuningShifts", spec := "tuningShifts", inPlace := ["internal/abi.NoEscape", "internal/bytealg.MakeNoZero"], unfollowed := true, recurses := true, named := ["internal/strconv.uint64pow10", "math/bits.deBruijn32tab", "math/bits.deBruijn64tab", "strconv.ErrSyntax", "strconv.ErrRange"], apart := false, laid := [("math/bits.deBruijn32tab", laid_math_bits_deBruijn32tab), ("math/bits.deBruijn64tab", laid_math_bits_deBruijn64tab), ("internal/strconv.uint64pow10", laid_internal_strconv_uint64pow10), ("strconv.ErrRange", laid_strconv_ErrRange), ("strconv.ErrSyntax", laid_strconv_ErrSyntax)], narrowed := true }
def TuningShiftsUptoSaid : Prop := tuningShiftsUptoRow.holds Tryz.pinned (OpenSpec.upto tuningShiftsSpec)

/-- 'schismalaw24.TuningBlends', WHERE WHAT IT READS IS OF BULK AT MOST 1048576: true; the input reads as it did. -/
def tuningBlendsUptoRow : OpenClaim := { program := "ytedlgnoiojcjaaagreatdoor", sum := "2c6bb84a6a3b971281a74043137702be8d3b05be29298bea4ce02b1f699d23a5", func := "schisma/schismalaw24.TuningBlends", spec := "tuningBlends", inPlace := ["internal/abi.NoEscape", "internal/bytealg.MakeNoZero"], unfollowed := true, recurses := true, named := ["internal/strconv.uint64pow10", "math/bits.deBruijn32tab", "math/bits.deBruijn64tab", "strconv.ErrSyntax", "strconv.ErrRange"], apart := false, laid := [("math/bits.deBruijn32tab", laid_math_bits_deBruijn32tab), ("math/bits.deBruijn64tab", laid_math_bits_deBruijn64tab), ("internal/strconv.uint64pow10", laid_internal_strconv_uint64pow10), ("strconv.ErrRange", laid_strconv_ErrRange), ("strconv.ErrSyntax", laid_strconv_ErrSyntax)], narrowed := true }
def TuningBlendsUptoSaid : Prop := tuningBlendsUptoRow.holds Tryz.pinned (OpenSpec.upto tuningBlendsSpec)

/-- 'schismalaw24.TuningChecks', WHERE WHAT IT READS IS OF BULK AT MOST 1048576: true; the input reads as it did. -/
def tuningChecksUptoRow : OpenClaim := { program := "ytedlgnoiojcjaaagreatdoor", sum := "2c6bb84a6a3b971281a74043137702be8d3b05be29298bea4ce02b1f699d23a5", func := "schisma/schismalaw24.TuningChecks", spec := "tuningChecks", inPlace := ["internal/abi.NoEscape", "internal/bytealg.MakeNoZero"], unfollowed := true, recurses := true, named := ["internal/strconv.uint64pow10", "math/bits.deBruijn32tab", "math/bits.deBruijn64tab", "strconv.ErrSyntax", "strconv.ErrRange"], apart := false, laid := [("math/bits.deBruijn32tab", laid_math_bits_deBruijn32tab), ("math/bits.deBruijn64tab", laid_math_bits_deBruijn64tab), ("internal/strconv.uint64pow10", laid_internal_strconv_uint64pow10), ("strconv.ErrRange", laid_strconv_ErrRange), ("strconv.ErrSyntax", laid_strconv_ErrSyntax)], narrowed := true }
def TuningChecksUptoSaid : Prop := tuningChecksUptoRow.holds Tryz.pinned (OpenSpec.upto tuningChecksSpec)

/-- 'schismalaw24.TuningFrom', WHERE WHAT IT READS IS OF BULK AT MOST 1048576: true; the input reads as it did. -/
def tuningFromUptoRow : OpenClaim := { program := "ytedlgnoiojcjaaagreatdoor", sum := "2c6bb84a6a3b971281a74043137702be8d3b05be29298bea4ce02b1f699d23a5", func := "schisma/schismalaw24.TuningFrom", spec := "tuningFrom", inPlace := ["internal/abi.NoEscape", "internal/bytealg.MakeNoZero"], unfollowed := true, recurses := true, named := ["internal/strconv.uint64pow10", "math/bits.deBruijn32tab", "math/bits.deBruijn64tab", "strconv.ErrSyntax", "strconv.ErrRange"], apart := false, laid := [("math/bits.deBruijn32tab", laid_math_bits_deBruijn32tab), ("math/bits.deBruijn64tab", laid_math_bits_deBruijn64tab), ("internal/strconv.uint64pow10", laid_internal_strconv_uint64pow10), ("strconv.ErrRange", laid_strconv_ErrRange), ("strconv.ErrSyntax", laid_strconv_ErrSyntax)], narrowed := true }
def TuningFromUptoSaid : Prop := tuningFromUptoRow.holds Tryz.pinned (OpenSpec.upto tuningFromSpec)

/-- 'schismalaw24.TuningJust', WHERE WHAT IT READS IS OF BULK AT MOST 1048576: true; the input reads as it did. -/
def tuningJustUptoRow : OpenClaim := { program := "ytedlgnoiojcjaaagreatdoor", sum := "2c6bb84a6a3b971281a74043137702be8d3b05be29298bea4ce02b1f699d23a5", func := "schisma/schismalaw24.TuningJust", spec := "tuningJust", inPlace := ["internal/abi.NoEscape", "internal/bytealg.MakeNoZero"], unfollowed := true, recurses := true, named := ["internal/strconv.uint64pow10", "math/bits.deBruijn32tab", "math/bits.deBruijn64tab", "strconv.ErrSyntax", "strconv.ErrRange"], apart := false, laid := [("math/bits.deBruijn32tab", laid_math_bits_deBruijn32tab), ("math/bits.deBruijn64tab", laid_math_bits_deBruijn64tab), ("internal/strconv.uint64pow10", laid_internal_strconv_uint64pow10), ("strconv.ErrRange", laid_strconv_ErrRange), ("strconv.ErrSyntax", laid_strconv_ErrSyntax)], narrowed := true }
def TuningJustUptoSaid : Prop := tuningJustUptoRow.holds Tryz.pinned (OpenSpec.upto tuningJustSpec)

/-- 'schismalaw24.TuningPrimes', WHERE WHAT IT READS IS OF BULK AT MOST 1048576: true; the input reads as it did. -/
def tuningPrimesUptoRow : OpenClaim := { program := "ytedlgnoiojcjaaagreatdoor", sum := "2c6bb84a6a3b971281a74043137702be8d3b05be29298bea4ce02b1f699d23a5", func := "schisma/schismalaw24.TuningPrimes", spec := "tuningPrimes", inPlace := ["internal/abi.NoEscape", "internal/bytealg.MakeNoZero"], unfollowed := true, recurses := true, named := ["internal/strconv.uint64pow10", "math/bits.deBruijn32tab", "math/bits.deBruijn64tab", "strconv.ErrSyntax", "strconv.ErrRange"], apart := false, laid := [("math/bits.deBruijn32tab", laid_math_bits_deBruijn32tab), ("math/bits.deBruijn64tab", laid_math_bits_deBruijn64tab), ("internal/strconv.uint64pow10", laid_internal_strconv_uint64pow10), ("strconv.ErrRange", laid_strconv_ErrRange), ("strconv.ErrSyntax", laid_strconv_ErrSyntax)], narrowed := true }
def TuningPrimesUptoSaid : Prop := tuningPrimesUptoRow.holds Tryz.pinned (OpenSpec.upto tuningPrimesSpec)

/-- 'schismalaw20.GeneratorForms', WHERE WHAT IT READS IS OF BULK AT MOST 1048576: true; the input reads as it did. -/
def generatorFormsUptoRow : OpenClaim := { program := "ytedlgnoiojcjaaagreatdoor", sum := "2c6bb84a6a3b971281a74043137702be8d3b05be29298bea4ce02b1f699d23a5", func := "schisma/schismalaw20.GeneratorForms", spec := "generatorForms", unfollowed := true, recurses := true, named := ["internal/strconv.uint64pow10", "math/bits.deBruijn32tab", "math/bits.deBruijn64tab", "strconv.ErrSyntax", "strconv.ErrRange"], apart := false, laid := [("math/bits.deBruijn32tab", laid_math_bits_deBruijn32tab), ("math/bits.deBruijn64tab", laid_math_bits_deBruijn64tab), ("internal/strconv.uint64pow10", laid_internal_strconv_uint64pow10), ("strconv.ErrRange", laid_strconv_ErrRange), ("strconv.ErrSyntax", laid_strconv_ErrSyntax)], narrowed := true }
def GeneratorFormsUptoSaid : Prop := generatorFormsUptoRow.holds Tryz.pinned (OpenSpec.upto generatorFormsSpec)

end Rows
end Go.Proofs.YtedlgnoiojcjaaaGreatDoor
