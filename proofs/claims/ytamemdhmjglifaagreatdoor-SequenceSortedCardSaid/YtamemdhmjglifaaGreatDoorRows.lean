/-
  NARROWER THAN 'FOR EVERY INPUT', by the rows' own cells (each row's printed sentence says how): SequenceSorts: loops, laid · SequenceSorted: laid · SequenceTests: loops, laid · SequenceMoves: loops, laid · SequenceSets: loops, laid · SequenceFinds: loops, laid · SequenceMembers: loops, laid · SequenceSearches: loops, laid · SequenceFound: laid.
  DERIVED. THE GIVEN ROWS OF THIS SEAT. 9 by the template 'for every input the law returns true; each argument reads behind the call as it read before'; 0 by the template 'total and deterministic' (their statements: YtamemdhmjglifaaGreatDoorTotals.lean).
  GIVEN WITH THE SEED: the statements are not yours to turn. If you find one false, say at which input.
  Laid BY PROGRAM, IN A SANDBOX (cutbox-rows.mjs): the forced cells as the released guide's own fill.sh prints them over the translation b9fa28fef25ab0f8… (all of the seat's roots in one cut). By AI agents, Wed Nov 11 2026. No macro, syntax, notation, axiom, sorry.
-/
import Derived.Test.YtamemdhmjglifaaGreatDoorChecked
import GoSem.Claim
import GoSem.ClaimJoined
import GoSem.ClaimMapViews
import Derived.JoinedTies
import Derived.KernelRfl
namespace Go.Proofs.YtamemdhmjglifaaGreatDoor
/- THE CELL 'sum', in the pinned program and in every row, IS THE sha256 OF THE DUMP (.gsa) THAT YtamemdhmjglifaaGreatDoorProg.lean LOADS. Nothing in Lean hashes anything: it is a label: what it is worth is what the hold of that sum in a sandbox is worth. -/
noncomputable def Tryz.pinned : Pinned := { name := "ytamemdhmjglifaagreatdoor", sum := "b9fa28fef25ab0f87597009ef88a16672d9b2cdfac3b8bbc5dca2cd0fdfcc0aa", checked := Tryz.checked }
namespace Rows
def none {H : Type} : Left H := { results := [], args := [] }

/- WHAT THE LISTED PACKAGE-LEVEL VARIABLES READ AS WHEN THE CALL BEGINS. Each datum BY PROGRAM (the guide's laid-datum.mjs) off the statement by which the dump's own 'gosem.cut.vars' lays the variable. In a bare row this is a premise. The card (YtamemdhmjglifaaGreatDoorCards.lean) ties it to the program's text. -/
def laid_math_bits_deBruijn32tab {H : Type} : DataW H := .agg [.lit (.int .u8 0), .lit (.int .u8 1), .lit (.int .u8 28), .lit (.int .u8 2), .lit (.int .u8 29), .lit (.int .u8 14), .lit (.int .u8 24), .lit (.int .u8 3), .lit (.int .u8 30), .lit (.int .u8 22), .lit (.int .u8 20), .lit (.int .u8 15), .lit (.int .u8 25), .lit (.int .u8 17), .lit (.int .u8 4), .lit (.int .u8 8), .lit (.int .u8 31), .lit (.int .u8 27), .lit (.int .u8 13), .lit (.int .u8 23), .lit (.int .u8 21), .lit (.int .u8 19), .lit (.int .u8 16), .lit (.int .u8 7), .lit (.int .u8 26), .lit (.int .u8 12), .lit (.int .u8 18), .lit (.int .u8 6), .lit (.int .u8 11), .lit (.int .u8 5), .lit (.int .u8 10), .lit (.int .u8 9)]
def laid_math_bits_deBruijn64tab {H : Type} : DataW H := .agg [.lit (.int .u8 0), .lit (.int .u8 1), .lit (.int .u8 56), .lit (.int .u8 2), .lit (.int .u8 57), .lit (.int .u8 49), .lit (.int .u8 28), .lit (.int .u8 3), .lit (.int .u8 61), .lit (.int .u8 58), .lit (.int .u8 42), .lit (.int .u8 50), .lit (.int .u8 38), .lit (.int .u8 29), .lit (.int .u8 17), .lit (.int .u8 4), .lit (.int .u8 62), .lit (.int .u8 47), .lit (.int .u8 59), .lit (.int .u8 36), .lit (.int .u8 45), .lit (.int .u8 43), .lit (.int .u8 51), .lit (.int .u8 22), .lit (.int .u8 53), .lit (.int .u8 39), .lit (.int .u8 33), .lit (.int .u8 30), .lit (.int .u8 24), .lit (.int .u8 18), .lit (.int .u8 12), .lit (.int .u8 5), .lit (.int .u8 63), .lit (.int .u8 55), .lit (.int .u8 48), .lit (.int .u8 27), .lit (.int .u8 60), .lit (.int .u8 41), .lit (.int .u8 37), .lit (.int .u8 16), .lit (.int .u8 46), .lit (.int .u8 35), .lit (.int .u8 44), .lit (.int .u8 21), .lit (.int .u8 52), .lit (.int .u8 32), .lit (.int .u8 23), .lit (.int .u8 11), .lit (.int .u8 54), .lit (.int .u8 26), .lit (.int .u8 40), .lit (.int .u8 15), .lit (.int .u8 34), .lit (.int .u8 20), .lit (.int .u8 31), .lit (.int .u8 10), .lit (.int .u8 25), .lit (.int .u8 14), .lit (.int .u8 19), .lit (.int .u8 9), .lit (.int .u8 13), .lit (.int .u8 8), .lit (.int .u8 7), .lit (.int .u8 6)]
def laid_internal_strconv_uint64pow10 {H : Type} : DataW H := .agg [.lit (.int .u64 1), .lit (.int .u64 10), .lit (.int .u64 100), .lit (.int .u64 1000), .lit (.int .u64 10000), .lit (.int .u64 100000), .lit (.int .u64 1000000), .lit (.int .u64 10000000), .lit (.int .u64 100000000), .lit (.int .u64 1000000000), .lit (.int .u64 10000000000), .lit (.int .u64 100000000000), .lit (.int .u64 1000000000000), .lit (.int .u64 10000000000000), .lit (.int .u64 100000000000000), .lit (.int .u64 1000000000000000), .lit (.int .u64 10000000000000000), .lit (.int .u64 100000000000000000), .lit (.int .u64 1000000000000000000), .lit (.int .u64 10000000000000000000)]
def laid_strconv_ErrRange {H : Type} : DataW H := .iface "*errors.errorString" (.ptr (.agg [.lit (.string [118, 97, 108, 117, 101, 32, 111, 117, 116, 32, 111, 102, 32, 114, 97, 110, 103, 101])]))
def laid_strconv_ErrSyntax {H : Type} : DataW H := .iface "*errors.errorString" (.ptr (.agg [.lit (.string [105, 110, 118, 97, 108, 105, 100, 32, 115, 121, 110, 116, 97, 120])]))

/-- 'commonformlaw12.SequenceSorts': WHATEVER THE INPUT: true; the input reads as it did. -/
def sequenceSortsSpec : ChangeSpec := { name := "sequenceSorts", fn := fun _ => fun
  | [d1, d2, d3, d4] => { results := [.lit (.bool true)], args := [d1, d2, d3, d4] }
  | _ => none }
def sequenceSortsRow : OpenClaim := { program := "ytamemdhmjglifaagreatdoor", sum := "b9fa28fef25ab0f87597009ef88a16672d9b2cdfac3b8bbc5dca2cd0fdfcc0aa", func := "commonform/commonformlaw12.SequenceSorts", spec := "sequenceSorts", inPlace := ["internal/bytealg.IndexByteString", "internal/bytealg.IndexString", "internal/bytealg.abigen_runtime_cmpstring"], unfollowed := true, recurses := true, named := ["internal/strconv.uint64pow10", "math/bits.deBruijn32tab", "math/bits.deBruijn64tab", "strconv.ErrSyntax", "strconv.ErrRange", "math/bits.overflowError", "internal/bytealg.MaxLen"], loops := true, apart := false, laid := [("math/bits.deBruijn32tab", laid_math_bits_deBruijn32tab), ("math/bits.deBruijn64tab", laid_math_bits_deBruijn64tab), ("internal/strconv.uint64pow10", laid_internal_strconv_uint64pow10), ("strconv.ErrRange", laid_strconv_ErrRange), ("strconv.ErrSyntax", laid_strconv_ErrSyntax)] }
def SequenceSortsSaid : Prop := sequenceSortsRow.holds Tryz.pinned (OpenSpec.ofChange sequenceSortsSpec)

/-- ITS FALSE NEIGHBOUR: 'it returns false'. Refute it at one input. -/
def sequenceSortsWrong : ChangeSpec := { name := "sequenceSorts", fn := fun _ => fun
  | [d1, d2, d3, d4] => { results := [.lit (.bool false)], args := [d1, d2, d3, d4] }
  | _ => none }
def SequenceSortsWrongFalsely : Prop := sequenceSortsRow.holds Tryz.pinned (OpenSpec.ofChange sequenceSortsWrong)

/-- 'commonformlaw12.SequenceSorted': WHATEVER THE INPUT: true; the input reads as it did. -/
def sequenceSortedSpec : ChangeSpec := { name := "sequenceSorted", fn := fun _ => fun
  | [d1, d2] => { results := [.lit (.bool true)], args := [d1, d2] }
  | _ => none }
def sequenceSortedRow : OpenClaim := { program := "ytamemdhmjglifaagreatdoor", sum := "b9fa28fef25ab0f87597009ef88a16672d9b2cdfac3b8bbc5dca2cd0fdfcc0aa", func := "commonform/commonformlaw12.SequenceSorted", spec := "sequenceSorted", inPlace := ["internal/bytealg.IndexByteString", "internal/bytealg.IndexString", "internal/bytealg.abigen_runtime_cmpstring"], unfollowed := true, recurses := true, named := ["internal/strconv.uint64pow10", "math/bits.deBruijn32tab", "math/bits.deBruijn64tab", "strconv.ErrSyntax", "strconv.ErrRange", "math/bits.overflowError", "internal/bytealg.MaxLen"], apart := false, laid := [("math/bits.deBruijn32tab", laid_math_bits_deBruijn32tab), ("math/bits.deBruijn64tab", laid_math_bits_deBruijn64tab), ("internal/strconv.uint64pow10", laid_internal_strconv_uint64pow10), ("strconv.ErrRange", laid_strconv_ErrRange), ("strconv.ErrSyntax", laid_strconv_ErrSyntax)] }
def SequenceSortedSaid : Prop := sequenceSortedRow.holds Tryz.pinned (OpenSpec.ofChange sequenceSortedSpec)

/-- ITS FALSE NEIGHBOUR: 'it returns false'. Refute it at one input. -/
def sequenceSortedWrong : ChangeSpec := { name := "sequenceSorted", fn := fun _ => fun
  | [d1, d2] => { results := [.lit (.bool false)], args := [d1, d2] }
  | _ => none }
def SequenceSortedWrongFalsely : Prop := sequenceSortedRow.holds Tryz.pinned (OpenSpec.ofChange sequenceSortedWrong)

/-- 'commonformlaw12.SequenceTests': WHATEVER THE INPUT: true; the input reads as it did. -/
def sequenceTestsSpec : ChangeSpec := { name := "sequenceTests", fn := fun _ => fun
  | [d1, d2, d3] => { results := [.lit (.bool true)], args := [d1, d2, d3] }
  | _ => none }
def sequenceTestsRow : OpenClaim := { program := "ytamemdhmjglifaagreatdoor", sum := "b9fa28fef25ab0f87597009ef88a16672d9b2cdfac3b8bbc5dca2cd0fdfcc0aa", func := "commonform/commonformlaw12.SequenceTests", spec := "sequenceTests", inPlace := ["internal/bytealg.IndexByteString", "internal/bytealg.IndexString", "internal/bytealg.abigen_runtime_cmpstring"], unfollowed := true, recurses := true, named := ["internal/strconv.uint64pow10", "math/bits.deBruijn32tab", "math/bits.deBruijn64tab", "strconv.ErrSyntax", "strconv.ErrRange", "math/bits.overflowError", "internal/bytealg.MaxLen"], loops := true, apart := false, laid := [("math/bits.deBruijn32tab", laid_math_bits_deBruijn32tab), ("math/bits.deBruijn64tab", laid_math_bits_deBruijn64tab), ("internal/strconv.uint64pow10", laid_internal_strconv_uint64pow10), ("strconv.ErrRange", laid_strconv_ErrRange), ("strconv.ErrSyntax", laid_strconv_ErrSyntax)] }
def SequenceTestsSaid : Prop := sequenceTestsRow.holds Tryz.pinned (OpenSpec.ofChange sequenceTestsSpec)

/-- ITS FALSE NEIGHBOUR: 'it returns false'. Refute it at one input. -/
def sequenceTestsWrong : ChangeSpec := { name := "sequenceTests", fn := fun _ => fun
  | [d1, d2, d3] => { results := [.lit (.bool false)], args := [d1, d2, d3] }
  | _ => none }
def SequenceTestsWrongFalsely : Prop := sequenceTestsRow.holds Tryz.pinned (OpenSpec.ofChange sequenceTestsWrong)

/-- 'commonformlaw12.SequenceMoves': WHATEVER THE INPUT: true; the input reads as it did. -/
def sequenceMovesSpec : ChangeSpec := { name := "sequenceMoves", fn := fun _ => fun
  | [d1, d2, d3, d4, d5, d6, d7] => { results := [.lit (.bool true)], args := [d1, d2, d3, d4, d5, d6, d7] }
  | _ => none }
def sequenceMovesRow : OpenClaim := { program := "ytamemdhmjglifaagreatdoor", sum := "b9fa28fef25ab0f87597009ef88a16672d9b2cdfac3b8bbc5dca2cd0fdfcc0aa", func := "commonform/commonformlaw12.SequenceMoves", spec := "sequenceMoves", inPlace := ["internal/bytealg.IndexByteString", "internal/bytealg.IndexString", "internal/bytealg.abigen_runtime_cmpstring"], unfollowed := true, recurses := true, named := ["internal/strconv.uint64pow10", "math/bits.deBruijn32tab", "math/bits.deBruijn64tab", "strconv.ErrSyntax", "strconv.ErrRange", "math/bits.overflowError", "internal/bytealg.MaxLen"], loops := true, apart := false, laid := [("math/bits.deBruijn32tab", laid_math_bits_deBruijn32tab), ("math/bits.deBruijn64tab", laid_math_bits_deBruijn64tab), ("internal/strconv.uint64pow10", laid_internal_strconv_uint64pow10), ("strconv.ErrRange", laid_strconv_ErrRange), ("strconv.ErrSyntax", laid_strconv_ErrSyntax)] }
def SequenceMovesSaid : Prop := sequenceMovesRow.holds Tryz.pinned (OpenSpec.ofChange sequenceMovesSpec)

/-- ITS FALSE NEIGHBOUR: 'it returns false'. Refute it at one input. -/
def sequenceMovesWrong : ChangeSpec := { name := "sequenceMoves", fn := fun _ => fun
  | [d1, d2, d3, d4, d5, d6, d7] => { results := [.lit (.bool false)], args := [d1, d2, d3, d4, d5, d6, d7] }
  | _ => none }
def SequenceMovesWrongFalsely : Prop := sequenceMovesRow.holds Tryz.pinned (OpenSpec.ofChange sequenceMovesWrong)

/-- 'commonformlaw12.SequenceSets': WHATEVER THE INPUT: true; the input reads as it did. -/
def sequenceSetsSpec : ChangeSpec := { name := "sequenceSets", fn := fun _ => fun
  | [d1, d2, d3, d4] => { results := [.lit (.bool true)], args := [d1, d2, d3, d4] }
  | _ => none }
def sequenceSetsRow : OpenClaim := { program := "ytamemdhmjglifaagreatdoor", sum := "b9fa28fef25ab0f87597009ef88a16672d9b2cdfac3b8bbc5dca2cd0fdfcc0aa", func := "commonform/commonformlaw12.SequenceSets", spec := "sequenceSets", inPlace := ["internal/bytealg.IndexByteString", "internal/bytealg.IndexString", "internal/bytealg.abigen_runtime_cmpstring"], unfollowed := true, recurses := true, named := ["internal/strconv.uint64pow10", "math/bits.deBruijn32tab", "math/bits.deBruijn64tab", "strconv.ErrSyntax", "strconv.ErrRange", "math/bits.overflowError", "internal/bytealg.MaxLen"], loops := true, apart := false, laid := [("math/bits.deBruijn32tab", laid_math_bits_deBruijn32tab), ("math/bits.deBruijn64tab", laid_math_bits_deBruijn64tab), ("internal/strconv.uint64pow10", laid_internal_strconv_uint64pow10), ("strconv.ErrRange", laid_strconv_ErrRange), ("strconv.ErrSyntax", laid_strconv_ErrSyntax)] }
def SequenceSetsSaid : Prop := sequenceSetsRow.holds Tryz.pinned (OpenSpec.ofChange sequenceSetsSpec)

/-- ITS FALSE NEIGHBOUR: 'it returns false'. Refute it at one input. -/
def sequenceSetsWrong : ChangeSpec := { name := "sequenceSets", fn := fun _ => fun
  | [d1, d2, d3, d4] => { results := [.lit (.bool false)], args := [d1, d2, d3, d4] }
  | _ => none }
def SequenceSetsWrongFalsely : Prop := sequenceSetsRow.holds Tryz.pinned (OpenSpec.ofChange sequenceSetsWrong)

/-- 'commonformlaw12.SequenceFinds': WHATEVER THE INPUT: true; the input reads as it did. -/
def sequenceFindsSpec : ChangeSpec := { name := "sequenceFinds", fn := fun _ => fun
  | [d1, d2, d3, d4] => { results := [.lit (.bool true)], args := [d1, d2, d3, d4] }
  | _ => none }
def sequenceFindsRow : OpenClaim := { program := "ytamemdhmjglifaagreatdoor", sum := "b9fa28fef25ab0f87597009ef88a16672d9b2cdfac3b8bbc5dca2cd0fdfcc0aa", func := "commonform/commonformlaw12.SequenceFinds", spec := "sequenceFinds", inPlace := ["internal/bytealg.IndexByteString", "internal/bytealg.IndexString", "internal/bytealg.abigen_runtime_cmpstring"], unfollowed := true, recurses := true, named := ["internal/strconv.uint64pow10", "math/bits.deBruijn32tab", "math/bits.deBruijn64tab", "strconv.ErrSyntax", "strconv.ErrRange", "math/bits.overflowError", "internal/bytealg.MaxLen"], loops := true, apart := false, laid := [("math/bits.deBruijn32tab", laid_math_bits_deBruijn32tab), ("math/bits.deBruijn64tab", laid_math_bits_deBruijn64tab), ("internal/strconv.uint64pow10", laid_internal_strconv_uint64pow10), ("strconv.ErrRange", laid_strconv_ErrRange), ("strconv.ErrSyntax", laid_strconv_ErrSyntax)] }
def SequenceFindsSaid : Prop := sequenceFindsRow.holds Tryz.pinned (OpenSpec.ofChange sequenceFindsSpec)

/-- ITS FALSE NEIGHBOUR: 'it returns false'. Refute it at one input. -/
def sequenceFindsWrong : ChangeSpec := { name := "sequenceFinds", fn := fun _ => fun
  | [d1, d2, d3, d4] => { results := [.lit (.bool false)], args := [d1, d2, d3, d4] }
  | _ => none }
def SequenceFindsWrongFalsely : Prop := sequenceFindsRow.holds Tryz.pinned (OpenSpec.ofChange sequenceFindsWrong)

/-- 'commonformlaw12.SequenceMembers': WHATEVER THE INPUT: true; the input reads as it did. -/
def sequenceMembersSpec : ChangeSpec := { name := "sequenceMembers", fn := fun _ => fun
  | [d1, d2, d3, d4, d5, d6] => { results := [.lit (.bool true)], args := [d1, d2, d3, d4, d5, d6] }
  | _ => none }
def sequenceMembersRow : OpenClaim := { program := "ytamemdhmjglifaagreatdoor", sum := "b9fa28fef25ab0f87597009ef88a16672d9b2cdfac3b8bbc5dca2cd0fdfcc0aa", func := "commonform/commonformlaw12.SequenceMembers", spec := "sequenceMembers", inPlace := ["internal/bytealg.IndexByteString", "internal/bytealg.IndexString", "internal/bytealg.abigen_runtime_cmpstring"], unfollowed := true, recurses := true, named := ["internal/strconv.uint64pow10", "math/bits.deBruijn32tab", "math/bits.deBruijn64tab", "strconv.ErrSyntax", "strconv.ErrRange", "math/bits.overflowError", "internal/bytealg.MaxLen"], loops := true, apart := false, laid := [("math/bits.deBruijn32tab", laid_math_bits_deBruijn32tab), ("math/bits.deBruijn64tab", laid_math_bits_deBruijn64tab), ("internal/strconv.uint64pow10", laid_internal_strconv_uint64pow10), ("strconv.ErrRange", laid_strconv_ErrRange), ("strconv.ErrSyntax", laid_strconv_ErrSyntax)] }
def SequenceMembersSaid : Prop := sequenceMembersRow.holds Tryz.pinned (OpenSpec.ofChange sequenceMembersSpec)

/-- ITS FALSE NEIGHBOUR: 'it returns false'. Refute it at one input. -/
def sequenceMembersWrong : ChangeSpec := { name := "sequenceMembers", fn := fun _ => fun
  | [d1, d2, d3, d4, d5, d6] => { results := [.lit (.bool false)], args := [d1, d2, d3, d4, d5, d6] }
  | _ => none }
def SequenceMembersWrongFalsely : Prop := sequenceMembersRow.holds Tryz.pinned (OpenSpec.ofChange sequenceMembersWrong)

/-- 'commonformlaw12.SequenceSearches': WHATEVER THE INPUT: true; the input reads as it did. -/
def sequenceSearchesSpec : ChangeSpec := { name := "sequenceSearches", fn := fun _ => fun
  | [d1, d2, d3] => { results := [.lit (.bool true)], args := [d1, d2, d3] }
  | _ => none }
def sequenceSearchesRow : OpenClaim := { program := "ytamemdhmjglifaagreatdoor", sum := "b9fa28fef25ab0f87597009ef88a16672d9b2cdfac3b8bbc5dca2cd0fdfcc0aa", func := "commonform/commonformlaw12.SequenceSearches", spec := "sequenceSearches", inPlace := ["internal/bytealg.IndexByteString", "internal/bytealg.IndexString", "internal/bytealg.abigen_runtime_cmpstring"], unfollowed := true, recurses := true, named := ["internal/strconv.uint64pow10", "math/bits.deBruijn32tab", "math/bits.deBruijn64tab", "strconv.ErrSyntax", "strconv.ErrRange", "math/bits.overflowError", "internal/bytealg.MaxLen"], loops := true, apart := false, laid := [("math/bits.deBruijn32tab", laid_math_bits_deBruijn32tab), ("math/bits.deBruijn64tab", laid_math_bits_deBruijn64tab), ("internal/strconv.uint64pow10", laid_internal_strconv_uint64pow10), ("strconv.ErrRange", laid_strconv_ErrRange), ("strconv.ErrSyntax", laid_strconv_ErrSyntax)] }
def SequenceSearchesSaid : Prop := sequenceSearchesRow.holds Tryz.pinned (OpenSpec.ofChange sequenceSearchesSpec)

/-- ITS FALSE NEIGHBOUR: 'it returns false'. Refute it at one input. -/
def sequenceSearchesWrong : ChangeSpec := { name := "sequenceSearches", fn := fun _ => fun
  | [d1, d2, d3] => { results := [.lit (.bool false)], args := [d1, d2, d3] }
  | _ => none }
def SequenceSearchesWrongFalsely : Prop := sequenceSearchesRow.holds Tryz.pinned (OpenSpec.ofChange sequenceSearchesWrong)

/-- 'commonformlaw12.SequenceFound': WHATEVER THE INPUT: true; the input reads as it did. -/
def sequenceFoundSpec : ChangeSpec := { name := "sequenceFound", fn := fun _ => fun
  | [d1, d2, d3, d4] => { results := [.lit (.bool true)], args := [d1, d2, d3, d4] }
  | _ => none }
def sequenceFoundRow : OpenClaim := { program := "ytamemdhmjglifaagreatdoor", sum := "b9fa28fef25ab0f87597009ef88a16672d9b2cdfac3b8bbc5dca2cd0fdfcc0aa", func := "commonform/commonformlaw12.SequenceFound", spec := "sequenceFound", inPlace := ["internal/bytealg.IndexByteString", "internal/bytealg.IndexString", "internal/bytealg.abigen_runtime_cmpstring"], unfollowed := true, recurses := true, named := ["internal/strconv.uint64pow10", "math/bits.deBruijn32tab", "math/bits.deBruijn64tab", "strconv.ErrSyntax", "strconv.ErrRange", "math/bits.overflowError", "internal/bytealg.MaxLen"], apart := false, laid := [("math/bits.deBruijn32tab", laid_math_bits_deBruijn32tab), ("math/bits.deBruijn64tab", laid_math_bits_deBruijn64tab), ("internal/strconv.uint64pow10", laid_internal_strconv_uint64pow10), ("strconv.ErrRange", laid_strconv_ErrRange), ("strconv.ErrSyntax", laid_strconv_ErrSyntax)] }
def SequenceFoundSaid : Prop := sequenceFoundRow.holds Tryz.pinned (OpenSpec.ofChange sequenceFoundSpec)

/-- ITS FALSE NEIGHBOUR: 'it returns false'. Refute it at one input. -/
def sequenceFoundWrong : ChangeSpec := { name := "sequenceFound", fn := fun _ => fun
  | [d1, d2, d3, d4] => { results := [.lit (.bool false)], args := [d1, d2, d3, d4] }
  | _ => none }
def SequenceFoundWrongFalsely : Prop := sequenceFoundRow.holds Tryz.pinned (OpenSpec.ofChange sequenceFoundWrong)

/- THE SECOND FORM. 'bulk': how many values and letters a reading holds, each counted each time it is reached (what is shared counts as often as it is met; a slice's spare places count too). A statement '..UptoSaid' is the law's where the arguments, and the package variables that the reading takes, are together of bulk at most 1048576: NARROWER than '..Said'. Prove '..Said' where nothing that the law and all that it calls make is longer than what came in: it says more and counts as full. Else prove '..UptoSaid'. A law counts once. -/
mutual
def uptoBulk {H : Type} : DataW H → Nat
  | .lit (.string bytes) => bytes.length + 1
  | .lit _ => 1
  | .nil => 1
  | .ptr d => uptoBulk d + 1
  | .slice elems spare => uptoBulkAll elems + uptoBulkAll spare + 1
  | .agg parts => uptoBulkAll parts + 1
  | .iface _ d => uptoBulk d + 1
  | .map entries => uptoBulkEntries entries + 1
  | .held _ => 1
def uptoBulkAll {H : Type} : List (DataW H) → Nat
  | [] => 0
  | d :: r => uptoBulk d + uptoBulkAll r
def uptoBulkEntries {H : Type} : List (Lit × DataW H) → Nat
  | [] => 0
  | x :: r => uptoBulkEntry x + uptoBulkEntries r
def uptoBulkEntry {H : Type} : Lit × DataW H → Nat
  | (.string bytes, d) => bytes.length + uptoBulk d + 1
  | (_, d) => uptoBulk d + 1
 end
def uptoSmall : (H : Type) → List (DataW H) → Bool := fun _ ds => decide (uptoBulkAll ds ≤ 1048576)
def OpenSpec.upto (s : _root_.Go.ChangeSpec) : _root_.Go.OpenSpec := { _root_.Go.OpenSpec.ofChange s with cond := some uptoSmall }

/-- 'commonformlaw12.SequenceSorts', WHERE WHAT IT READS IS OF BULK AT MOST 1048576: true; the input reads as it did. -/
def sequenceSortsUptoRow : OpenClaim := { program := "ytamemdhmjglifaagreatdoor", sum := "b9fa28fef25ab0f87597009ef88a16672d9b2cdfac3b8bbc5dca2cd0fdfcc0aa", func := "commonform/commonformlaw12.SequenceSorts", spec := "sequenceSorts", inPlace := ["internal/bytealg.IndexByteString", "internal/bytealg.IndexString", "internal/bytealg.abigen_runtime_cmpstring"], unfollowed := true, recurses := true, named := ["internal/strconv.uint64pow10", "math/bits.deBruijn32tab", "math/bits.deBruijn64tab", "strconv.ErrSyntax", "strconv.ErrRange", "math/bits.overflowError", "internal/bytealg.MaxLen"], loops := true, apart := false, laid := [("math/bits.deBruijn32tab", laid_math_bits_deBruijn32tab), ("math/bits.deBruijn64tab", laid_math_bits_deBruijn64tab), ("internal/strconv.uint64pow10", laid_internal_strconv_uint64pow10), ("strconv.ErrRange", laid_strconv_ErrRange), ("strconv.ErrSyntax", laid_strconv_ErrSyntax)], narrowed := true }
def SequenceSortsUptoSaid : Prop := sequenceSortsUptoRow.holds Tryz.pinned (OpenSpec.upto sequenceSortsSpec)

/-- 'commonformlaw12.SequenceSorted', WHERE WHAT IT READS IS OF BULK AT MOST 1048576: true; the input reads as it did. -/
def sequenceSortedUptoRow : OpenClaim := { program := "ytamemdhmjglifaagreatdoor", sum := "b9fa28fef25ab0f87597009ef88a16672d9b2cdfac3b8bbc5dca2cd0fdfcc0aa", func := "commonform/commonformlaw12.SequenceSorted", spec := "sequenceSorted", inPlace := ["internal/bytealg.IndexByteString", "internal/bytealg.IndexString", "internal/bytealg.abigen_runtime_cmpstring"], unfollowed := true, recurses := true, named := ["internal/strconv.uint64pow10", "math/bits.deBruijn32tab", "math/bits.deBruijn64tab", "strconv.ErrSyntax", "strconv.ErrRange", "math/bits.overflowError", "internal/bytealg.MaxLen"], apart := false, laid := [("math/bits.deBruijn32tab", laid_math_bits_deBruijn32tab), ("math/bits.deBruijn64tab", laid_math_bits_deBruijn64tab), ("internal/strconv.uint64pow10", laid_internal_strconv_uint64pow10), ("strconv.ErrRange", laid_strconv_ErrRange), ("strconv.ErrSyntax", laid_strconv_ErrSyntax)], narrowed := true }
def SequenceSortedUptoSaid : Prop := sequenceSortedUptoRow.holds Tryz.pinned (OpenSpec.upto sequenceSortedSpec)

/-- 'commonformlaw12.SequenceTests', WHERE WHAT IT READS IS OF BULK AT MOST 1048576: true; the input reads as it did. -/
def sequenceTestsUptoRow : OpenClaim := { program := "ytamemdhmjglifaagreatdoor", sum := "b9fa28fef25ab0f87597009ef88a16672d9b2cdfac3b8bbc5dca2cd0fdfcc0aa", func := "commonform/commonformlaw12.SequenceTests", spec := "sequenceTests", inPlace := ["internal/bytealg.IndexByteString", "internal/bytealg.IndexString", "internal/bytealg.abigen_runtime_cmpstring"], unfollowed := true, recurses := true, named := ["internal/strconv.uint64pow10", "math/bits.deBruijn32tab", "math/bits.deBruijn64tab", "strconv.ErrSyntax", "strconv.ErrRange", "math/bits.overflowError", "internal/bytealg.MaxLen"], loops := true, apart := false, laid := [("math/bits.deBruijn32tab", laid_math_bits_deBruijn32tab), ("math/bits.deBruijn64tab", laid_math_bits_deBruijn64tab), ("internal/strconv.uint64pow10", laid_internal_strconv_uint64pow10), ("strconv.ErrRange", laid_strconv_ErrRange), ("strconv.ErrSyntax", laid_strconv_ErrSyntax)], narrowed := true }
def SequenceTestsUptoSaid : Prop := sequenceTestsUptoRow.holds Tryz.pinned (OpenSpec.upto sequenceTestsSpec)

/-- 'commonformlaw12.SequenceMoves', WHERE WHAT IT READS IS OF BULK AT MOST 1048576: true; the input reads as it did. -/
def sequenceMovesUptoRow : OpenClaim := { program := "ytamemdhmjglifaagreatdoor", sum := "b9fa28fef25ab0f87597009ef88a16672d9b2cdfac3b8bbc5dca2cd0fdfcc0aa", func := "commonform/commonformlaw12.SequenceMoves", spec := "sequenceMoves", inPlace := ["internal/bytealg.IndexByteString", "internal/bytealg.IndexString", "internal/bytealg.abigen_runtime_cmpstring"], unfollowed := true, recurses := true, named := ["internal/strconv.uint64pow10", "math/bits.deBruijn32tab", "math/bits.deBruijn64tab", "strconv.ErrSyntax", "strconv.ErrRange", "math/bits.overflowError", "internal/bytealg.MaxLen"], loops := true, apart := false, laid := [("math/bits.deBruijn32tab", laid_math_bits_deBruijn32tab), ("math/bits.deBruijn64tab", laid_math_bits_deBruijn64tab), ("internal/strconv.uint64pow10", laid_internal_strconv_uint64pow10), ("strconv.ErrRange", laid_strconv_ErrRange), ("strconv.ErrSyntax", laid_strconv_ErrSyntax)], narrowed := true }
def SequenceMovesUptoSaid : Prop := sequenceMovesUptoRow.holds Tryz.pinned (OpenSpec.upto sequenceMovesSpec)

/-- 'commonformlaw12.SequenceSets', WHERE WHAT IT READS IS OF BULK AT MOST 1048576: true; the input reads as it did. -/
def sequenceSetsUptoRow : OpenClaim := { program := "ytamemdhmjglifaagreatdoor", sum := "b9fa28fef25ab0f87597009ef88a16672d9b2cdfac3b8bbc5dca2cd0fdfcc0aa", func := "commonform/commonformlaw12.SequenceSets", spec := "sequenceSets", inPlace := ["internal/bytealg.IndexByteString", "internal/bytealg.IndexString", "internal/bytealg.abigen_runtime_cmpstring"], unfollowed := true, recurses := true, named := ["internal/strconv.uint64pow10", "math/bits.deBruijn32tab", "math/bits.deBruijn64tab", "strconv.ErrSyntax", "strconv.ErrRange", "math/bits.overflowError", "internal/bytealg.MaxLen"], loops := true, apart := false, laid := [("math/bits.deBruijn32tab", laid_math_bits_deBruijn32tab), ("math/bits.deBruijn64tab", laid_math_bits_deBruijn64tab), ("internal/strconv.uint64pow10", laid_internal_strconv_uint64pow10), ("strconv.ErrRange", laid_strconv_ErrRange), ("strconv.ErrSyntax", laid_strconv_ErrSyntax)], narrowed := true }
def SequenceSetsUptoSaid : Prop := sequenceSetsUptoRow.holds Tryz.pinned (OpenSpec.upto sequenceSetsSpec)

/-- 'commonformlaw12.SequenceFinds', WHERE WHAT IT READS IS OF BULK AT MOST 1048576: true; the input reads as it did. -/
def sequenceFindsUptoRow : OpenClaim := { program := "ytamemdhmjglifaagreatdoor", sum := "b9fa28fef25ab0f87597009ef88a16672d9b2cdfac3b8bbc5dca2cd0fdfcc0aa", func := "commonform/commonformlaw12.SequenceFinds", spec := "sequenceFinds", inPlace := ["internal/bytealg.IndexByteString", "internal/bytealg.IndexString", "internal/bytealg.abigen_runtime_cmpstring"], unfollowed := true, recurses := true, named := ["internal/strconv.uint64pow10", "math/bits.deBruijn32tab", "math/bits.deBruijn64tab", "strconv.ErrSyntax", "strconv.ErrRange", "math/bits.overflowError", "internal/bytealg.MaxLen"], loops := true, apart := false, laid := [("math/bits.deBruijn32tab", laid_math_bits_deBruijn32tab), ("math/bits.deBruijn64tab", laid_math_bits_deBruijn64tab), ("internal/strconv.uint64pow10", laid_internal_strconv_uint64pow10), ("strconv.ErrRange", laid_strconv_ErrRange), ("strconv.ErrSyntax", laid_strconv_ErrSyntax)], narrowed := true }
def SequenceFindsUptoSaid : Prop := sequenceFindsUptoRow.holds Tryz.pinned (OpenSpec.upto sequenceFindsSpec)

/-- 'commonformlaw12.SequenceMembers', WHERE WHAT IT READS IS OF BULK AT MOST 1048576: true; the input reads as it did. -/
def sequenceMembersUptoRow : OpenClaim := { program := "ytamemdhmjglifaagreatdoor", sum := "b9fa28fef25ab0f87597009ef88a16672d9b2cdfac3b8bbc5dca2cd0fdfcc0aa", func := "commonform/commonformlaw12.SequenceMembers", spec := "sequenceMembers", inPlace := ["internal/bytealg.IndexByteString", "internal/bytealg.IndexString", "internal/bytealg.abigen_runtime_cmpstring"], unfollowed := true, recurses := true, named := ["internal/strconv.uint64pow10", "math/bits.deBruijn32tab", "math/bits.deBruijn64tab", "strconv.ErrSyntax", "strconv.ErrRange", "math/bits.overflowError", "internal/bytealg.MaxLen"], loops := true, apart := false, laid := [("math/bits.deBruijn32tab", laid_math_bits_deBruijn32tab), ("math/bits.deBruijn64tab", laid_math_bits_deBruijn64tab), ("internal/strconv.uint64pow10", laid_internal_strconv_uint64pow10), ("strconv.ErrRange", laid_strconv_ErrRange), ("strconv.ErrSyntax", laid_strconv_ErrSyntax)], narrowed := true }
def SequenceMembersUptoSaid : Prop := sequenceMembersUptoRow.holds Tryz.pinned (OpenSpec.upto sequenceMembersSpec)

/-- 'commonformlaw12.SequenceSearches', WHERE WHAT IT READS IS OF BULK AT MOST 1048576: true; the input reads as it did. -/
def sequenceSearchesUptoRow : OpenClaim := { program := "ytamemdhmjglifaagreatdoor", sum := "b9fa28fef25ab0f87597009ef88a16672d9b2cdfac3b8bbc5dca2cd0fdfcc0aa", func := "commonform/commonformlaw12.SequenceSearches", spec := "sequenceSearches", inPlace := ["internal/bytealg.IndexByteString", "internal/bytealg.IndexString", "internal/bytealg.abigen_runtime_cmpstring"], unfollowed := true, recurses := true, named := ["internal/strconv.uint64pow10", "math/bits.deBruijn32tab", "math/bits.deBruijn64tab", "strconv.ErrSyntax", "strconv.ErrRange", "math/bits.overflowError", "internal/bytealg.MaxLen"], loops := true, apart := false, laid := [("math/bits.deBruijn32tab", laid_math_bits_deBruijn32tab), ("math/bits.deBruijn64tab", laid_math_bits_deBruijn64tab), ("internal/strconv.uint64pow10", laid_internal_strconv_uint64pow10), ("strconv.ErrRange", laid_strconv_ErrRange), ("strconv.ErrSyntax", laid_strconv_ErrSyntax)], narrowed := true }
def SequenceSearchesUptoSaid : Prop := sequenceSearchesUptoRow.holds Tryz.pinned (OpenSpec.upto sequenceSearchesSpec)

/-- 'commonformlaw12.SequenceFound', WHERE WHAT IT READS IS OF BULK AT MOST 1048576: true; the input reads as it did. -/
def sequenceFoundUptoRow : OpenClaim := { program := "ytamemdhmjglifaagreatdoor", sum := "b9fa28fef25ab0f87597009ef88a16672d9b2cdfac3b8bbc5dca2cd0fdfcc0aa", func := "commonform/commonformlaw12.SequenceFound", spec := "sequenceFound", inPlace := ["internal/bytealg.IndexByteString", "internal/bytealg.IndexString", "internal/bytealg.abigen_runtime_cmpstring"], unfollowed := true, recurses := true, named := ["internal/strconv.uint64pow10", "math/bits.deBruijn32tab", "math/bits.deBruijn64tab", "strconv.ErrSyntax", "strconv.ErrRange", "math/bits.overflowError", "internal/bytealg.MaxLen"], apart := false, laid := [("math/bits.deBruijn32tab", laid_math_bits_deBruijn32tab), ("math/bits.deBruijn64tab", laid_math_bits_deBruijn64tab), ("internal/strconv.uint64pow10", laid_internal_strconv_uint64pow10), ("strconv.ErrRange", laid_strconv_ErrRange), ("strconv.ErrSyntax", laid_strconv_ErrSyntax)], narrowed := true }
def SequenceFoundUptoSaid : Prop := sequenceFoundUptoRow.holds Tryz.pinned (OpenSpec.upto sequenceFoundSpec)

end Rows
end Go.Proofs.YtamemdhmjglifaaGreatDoor
