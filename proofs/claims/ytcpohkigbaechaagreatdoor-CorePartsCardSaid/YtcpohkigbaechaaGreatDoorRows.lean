/-
  NARROWER THAN 'FOR EVERY INPUT', by the rows' own cells (each row's printed sentence says how): CoreMatchesReference: laid · CoreCertificatesMatchReference: laid · CoreRawMatchesReference: laid · CoreProofs: laid · CoreAll: laid · CoreHarmless: laid · CoreTexts: laid · CoreOf: laid · CoreParts: laid.
  DERIVED. THE GIVEN ROWS OF THIS SEAT. 9 by the template 'for every input the law returns true; each argument reads behind the call as it read before'; 0 by the template 'total and deterministic' (their statements: YtcpohkigbaechaaGreatDoorTotals.lean).
  GIVEN WITH THE SEED: the statements are not yours to turn. If you find one false, say at which input.
  Laid BY PROGRAM, IN A SANDBOX (cutbox-rows.mjs): the forced cells as the released guide's own fill.sh prints them over the translation 21370e4322214a61… (all of the seat's roots in one cut). By AI agents, Wed Nov 11 2026. No macro, syntax, notation, axiom, sorry.
-/
import Derived.Test.YtcpohkigbaechaaGreatDoorChecked
import GoSem.Claim
import GoSem.ClaimJoined
import GoSem.ClaimMapViews
import Derived.JoinedTies
import Derived.KernelRfl
namespace Go.Proofs.YtcpohkigbaechaaGreatDoor
/- THE CELL 'sum', in the pinned program and in every row, IS THE sha256 OF THE DUMP (.gsa) THAT YtcpohkigbaechaaGreatDoorProg.lean LOADS. Nothing in Lean hashes anything: it is a label: what it is worth is what the hold of that sum in a sandbox is worth. -/
noncomputable def Tryz.pinned : Pinned := { name := "ytcpohkigbaechaagreatdoor", sum := "21370e4322214a61d1ff18e82ac4c37b921440a804062317ea3e3653db31b1b6", checked := Tryz.checked }
namespace Rows
def none {H : Type} : Left H := { results := [], args := [] }

/- WHAT THE LISTED PACKAGE-LEVEL VARIABLES READ AS WHEN THE CALL BEGINS. Each datum BY PROGRAM (the guide's laid-datum.mjs) off the statement by which the dump's own 'gosem.cut.vars' lays the variable. In a bare row this is a premise. The card (YtcpohkigbaechaaGreatDoorCards.lean) ties it to the program's text. -/
def laid_math_bits_deBruijn32tab {H : Type} : DataW H := .agg [.lit (.int .u8 0), .lit (.int .u8 1), .lit (.int .u8 28), .lit (.int .u8 2), .lit (.int .u8 29), .lit (.int .u8 14), .lit (.int .u8 24), .lit (.int .u8 3), .lit (.int .u8 30), .lit (.int .u8 22), .lit (.int .u8 20), .lit (.int .u8 15), .lit (.int .u8 25), .lit (.int .u8 17), .lit (.int .u8 4), .lit (.int .u8 8), .lit (.int .u8 31), .lit (.int .u8 27), .lit (.int .u8 13), .lit (.int .u8 23), .lit (.int .u8 21), .lit (.int .u8 19), .lit (.int .u8 16), .lit (.int .u8 7), .lit (.int .u8 26), .lit (.int .u8 12), .lit (.int .u8 18), .lit (.int .u8 6), .lit (.int .u8 11), .lit (.int .u8 5), .lit (.int .u8 10), .lit (.int .u8 9)]
def laid_math_bits_deBruijn64tab {H : Type} : DataW H := .agg [.lit (.int .u8 0), .lit (.int .u8 1), .lit (.int .u8 56), .lit (.int .u8 2), .lit (.int .u8 57), .lit (.int .u8 49), .lit (.int .u8 28), .lit (.int .u8 3), .lit (.int .u8 61), .lit (.int .u8 58), .lit (.int .u8 42), .lit (.int .u8 50), .lit (.int .u8 38), .lit (.int .u8 29), .lit (.int .u8 17), .lit (.int .u8 4), .lit (.int .u8 62), .lit (.int .u8 47), .lit (.int .u8 59), .lit (.int .u8 36), .lit (.int .u8 45), .lit (.int .u8 43), .lit (.int .u8 51), .lit (.int .u8 22), .lit (.int .u8 53), .lit (.int .u8 39), .lit (.int .u8 33), .lit (.int .u8 30), .lit (.int .u8 24), .lit (.int .u8 18), .lit (.int .u8 12), .lit (.int .u8 5), .lit (.int .u8 63), .lit (.int .u8 55), .lit (.int .u8 48), .lit (.int .u8 27), .lit (.int .u8 60), .lit (.int .u8 41), .lit (.int .u8 37), .lit (.int .u8 16), .lit (.int .u8 46), .lit (.int .u8 35), .lit (.int .u8 44), .lit (.int .u8 21), .lit (.int .u8 52), .lit (.int .u8 32), .lit (.int .u8 23), .lit (.int .u8 11), .lit (.int .u8 54), .lit (.int .u8 26), .lit (.int .u8 40), .lit (.int .u8 15), .lit (.int .u8 34), .lit (.int .u8 20), .lit (.int .u8 31), .lit (.int .u8 10), .lit (.int .u8 25), .lit (.int .u8 14), .lit (.int .u8 19), .lit (.int .u8 9), .lit (.int .u8 13), .lit (.int .u8 8), .lit (.int .u8 7), .lit (.int .u8 6)]
def laid_internal_strconv_uint64pow10 {H : Type} : DataW H := .agg [.lit (.int .u64 1), .lit (.int .u64 10), .lit (.int .u64 100), .lit (.int .u64 1000), .lit (.int .u64 10000), .lit (.int .u64 100000), .lit (.int .u64 1000000), .lit (.int .u64 10000000), .lit (.int .u64 100000000), .lit (.int .u64 1000000000), .lit (.int .u64 10000000000), .lit (.int .u64 100000000000), .lit (.int .u64 1000000000000), .lit (.int .u64 10000000000000), .lit (.int .u64 100000000000000), .lit (.int .u64 1000000000000000), .lit (.int .u64 10000000000000000), .lit (.int .u64 100000000000000000), .lit (.int .u64 1000000000000000000), .lit (.int .u64 10000000000000000000)]

/-- 'kalendslaw34.CoreMatchesReference': WHATEVER THE INPUT: true; the input reads as it did. -/
def coreMatchesReferenceSpec : ChangeSpec := { name := "coreMatchesReference", fn := fun _ => fun
  | [d1, d2, d3] => { results := [.lit (.bool true)], args := [d1, d2, d3] }
  | _ => none }
def coreMatchesReferenceRow : OpenClaim := { program := "ytcpohkigbaechaagreatdoor", sum := "21370e4322214a61d1ff18e82ac4c37b921440a804062317ea3e3653db31b1b6", func := "kalends/kalendslaw34.CoreMatchesReference", spec := "coreMatchesReference", unfollowed := true, recurses := true, named := ["internal/strconv.uint64pow10", "math/bits.deBruijn32tab", "math/bits.deBruijn64tab"], apart := false, laid := [("math/bits.deBruijn32tab", laid_math_bits_deBruijn32tab), ("math/bits.deBruijn64tab", laid_math_bits_deBruijn64tab), ("internal/strconv.uint64pow10", laid_internal_strconv_uint64pow10)] }
def CoreMatchesReferenceSaid : Prop := coreMatchesReferenceRow.holds Tryz.pinned (OpenSpec.ofChange coreMatchesReferenceSpec)

/-- ITS FALSE NEIGHBOUR: 'it returns false'. Refute it at one input. -/
def coreMatchesReferenceWrong : ChangeSpec := { name := "coreMatchesReference", fn := fun _ => fun
  | [d1, d2, d3] => { results := [.lit (.bool false)], args := [d1, d2, d3] }
  | _ => none }
def CoreMatchesReferenceWrongFalsely : Prop := coreMatchesReferenceRow.holds Tryz.pinned (OpenSpec.ofChange coreMatchesReferenceWrong)

/-- 'kalendslaw34.CoreCertificatesMatchReference': WHATEVER THE INPUT: true; the input reads as it did. -/
def coreCertificatesMatchReferenceSpec : ChangeSpec := { name := "coreCertificatesMatchReference", fn := fun _ => fun
  | [d1, d2, d3] => { results := [.lit (.bool true)], args := [d1, d2, d3] }
  | _ => none }
def coreCertificatesMatchReferenceRow : OpenClaim := { program := "ytcpohkigbaechaagreatdoor", sum := "21370e4322214a61d1ff18e82ac4c37b921440a804062317ea3e3653db31b1b6", func := "kalends/kalendslaw34.CoreCertificatesMatchReference", spec := "coreCertificatesMatchReference", unfollowed := true, recurses := true, named := ["internal/strconv.uint64pow10", "math/bits.deBruijn32tab", "math/bits.deBruijn64tab"], apart := false, laid := [("math/bits.deBruijn32tab", laid_math_bits_deBruijn32tab), ("math/bits.deBruijn64tab", laid_math_bits_deBruijn64tab), ("internal/strconv.uint64pow10", laid_internal_strconv_uint64pow10)] }
def CoreCertificatesMatchReferenceSaid : Prop := coreCertificatesMatchReferenceRow.holds Tryz.pinned (OpenSpec.ofChange coreCertificatesMatchReferenceSpec)

/-- ITS FALSE NEIGHBOUR: 'it returns false'. Refute it at one input. -/
def coreCertificatesMatchReferenceWrong : ChangeSpec := { name := "coreCertificatesMatchReference", fn := fun _ => fun
  | [d1, d2, d3] => { results := [.lit (.bool false)], args := [d1, d2, d3] }
  | _ => none }
def CoreCertificatesMatchReferenceWrongFalsely : Prop := coreCertificatesMatchReferenceRow.holds Tryz.pinned (OpenSpec.ofChange coreCertificatesMatchReferenceWrong)

/-- 'kalendslaw34.CoreRawMatchesReference': WHATEVER THE INPUT: true; the input reads as it did. -/
def coreRawMatchesReferenceSpec : ChangeSpec := { name := "coreRawMatchesReference", fn := fun _ => fun
  | [d1, d2] => { results := [.lit (.bool true)], args := [d1, d2] }
  | _ => none }
def coreRawMatchesReferenceRow : OpenClaim := { program := "ytcpohkigbaechaagreatdoor", sum := "21370e4322214a61d1ff18e82ac4c37b921440a804062317ea3e3653db31b1b6", func := "kalends/kalendslaw34.CoreRawMatchesReference", spec := "coreRawMatchesReference", unfollowed := true, recurses := true, named := ["internal/strconv.uint64pow10", "math/bits.deBruijn32tab", "math/bits.deBruijn64tab"], apart := false, laid := [("math/bits.deBruijn32tab", laid_math_bits_deBruijn32tab), ("math/bits.deBruijn64tab", laid_math_bits_deBruijn64tab), ("internal/strconv.uint64pow10", laid_internal_strconv_uint64pow10)] }
def CoreRawMatchesReferenceSaid : Prop := coreRawMatchesReferenceRow.holds Tryz.pinned (OpenSpec.ofChange coreRawMatchesReferenceSpec)

/-- ITS FALSE NEIGHBOUR: 'it returns false'. Refute it at one input. -/
def coreRawMatchesReferenceWrong : ChangeSpec := { name := "coreRawMatchesReference", fn := fun _ => fun
  | [d1, d2] => { results := [.lit (.bool false)], args := [d1, d2] }
  | _ => none }
def CoreRawMatchesReferenceWrongFalsely : Prop := coreRawMatchesReferenceRow.holds Tryz.pinned (OpenSpec.ofChange coreRawMatchesReferenceWrong)

/-- 'kalendslaw34.CoreProofs': WHATEVER THE INPUT: true; the input reads as it did. -/
def coreProofsSpec : ChangeSpec := { name := "coreProofs", fn := fun _ => fun
  | [d1, d2, d3] => { results := [.lit (.bool true)], args := [d1, d2, d3] }
  | _ => none }
def coreProofsRow : OpenClaim := { program := "ytcpohkigbaechaagreatdoor", sum := "21370e4322214a61d1ff18e82ac4c37b921440a804062317ea3e3653db31b1b6", func := "kalends/kalendslaw34.CoreProofs", spec := "coreProofs", unfollowed := true, recurses := true, named := ["internal/strconv.uint64pow10", "math/bits.deBruijn32tab", "math/bits.deBruijn64tab"], apart := false, laid := [("math/bits.deBruijn32tab", laid_math_bits_deBruijn32tab), ("math/bits.deBruijn64tab", laid_math_bits_deBruijn64tab), ("internal/strconv.uint64pow10", laid_internal_strconv_uint64pow10)] }
def CoreProofsSaid : Prop := coreProofsRow.holds Tryz.pinned (OpenSpec.ofChange coreProofsSpec)

/-- ITS FALSE NEIGHBOUR: 'it returns false'. Refute it at one input. -/
def coreProofsWrong : ChangeSpec := { name := "coreProofs", fn := fun _ => fun
  | [d1, d2, d3] => { results := [.lit (.bool false)], args := [d1, d2, d3] }
  | _ => none }
def CoreProofsWrongFalsely : Prop := coreProofsRow.holds Tryz.pinned (OpenSpec.ofChange coreProofsWrong)

/-- 'kalendslaw34.CoreAll': WHATEVER THE INPUT: true; the input reads as it did. -/
def coreAllSpec : ChangeSpec := { name := "coreAll", fn := fun _ => fun
  | [d1, d2] => { results := [.lit (.bool true)], args := [d1, d2] }
  | _ => none }
def coreAllRow : OpenClaim := { program := "ytcpohkigbaechaagreatdoor", sum := "21370e4322214a61d1ff18e82ac4c37b921440a804062317ea3e3653db31b1b6", func := "kalends/kalendslaw34.CoreAll", spec := "coreAll", unfollowed := true, recurses := true, named := ["internal/strconv.uint64pow10", "math/bits.deBruijn32tab", "math/bits.deBruijn64tab"], apart := false, laid := [("math/bits.deBruijn32tab", laid_math_bits_deBruijn32tab), ("math/bits.deBruijn64tab", laid_math_bits_deBruijn64tab), ("internal/strconv.uint64pow10", laid_internal_strconv_uint64pow10)] }
def CoreAllSaid : Prop := coreAllRow.holds Tryz.pinned (OpenSpec.ofChange coreAllSpec)

/-- ITS FALSE NEIGHBOUR: 'it returns false'. Refute it at one input. -/
def coreAllWrong : ChangeSpec := { name := "coreAll", fn := fun _ => fun
  | [d1, d2] => { results := [.lit (.bool false)], args := [d1, d2] }
  | _ => none }
def CoreAllWrongFalsely : Prop := coreAllRow.holds Tryz.pinned (OpenSpec.ofChange coreAllWrong)

/-- 'kalendslaw34.CoreHarmless': WHATEVER THE INPUT: true; the input reads as it did. -/
def coreHarmlessSpec : ChangeSpec := { name := "coreHarmless", fn := fun _ => fun
  | [d1, d2] => { results := [.lit (.bool true)], args := [d1, d2] }
  | _ => none }
def coreHarmlessRow : OpenClaim := { program := "ytcpohkigbaechaagreatdoor", sum := "21370e4322214a61d1ff18e82ac4c37b921440a804062317ea3e3653db31b1b6", func := "kalends/kalendslaw34.CoreHarmless", spec := "coreHarmless", unfollowed := true, recurses := true, named := ["internal/strconv.uint64pow10", "math/bits.deBruijn32tab", "math/bits.deBruijn64tab"], apart := false, laid := [("math/bits.deBruijn32tab", laid_math_bits_deBruijn32tab), ("math/bits.deBruijn64tab", laid_math_bits_deBruijn64tab), ("internal/strconv.uint64pow10", laid_internal_strconv_uint64pow10)] }
def CoreHarmlessSaid : Prop := coreHarmlessRow.holds Tryz.pinned (OpenSpec.ofChange coreHarmlessSpec)

/-- ITS FALSE NEIGHBOUR: 'it returns false'. Refute it at one input. -/
def coreHarmlessWrong : ChangeSpec := { name := "coreHarmless", fn := fun _ => fun
  | [d1, d2] => { results := [.lit (.bool false)], args := [d1, d2] }
  | _ => none }
def CoreHarmlessWrongFalsely : Prop := coreHarmlessRow.holds Tryz.pinned (OpenSpec.ofChange coreHarmlessWrong)

/-- 'kalendslaw34.CoreTexts': WHATEVER THE INPUT: true; the input reads as it did. -/
def coreTextsSpec : ChangeSpec := { name := "coreTexts", fn := fun _ => fun
  | [d1, d2] => { results := [.lit (.bool true)], args := [d1, d2] }
  | _ => none }
def coreTextsRow : OpenClaim := { program := "ytcpohkigbaechaagreatdoor", sum := "21370e4322214a61d1ff18e82ac4c37b921440a804062317ea3e3653db31b1b6", func := "kalends/kalendslaw34.CoreTexts", spec := "coreTexts", unfollowed := true, recurses := true, named := ["internal/strconv.uint64pow10", "math/bits.deBruijn32tab", "math/bits.deBruijn64tab"], apart := false, laid := [("math/bits.deBruijn32tab", laid_math_bits_deBruijn32tab), ("math/bits.deBruijn64tab", laid_math_bits_deBruijn64tab), ("internal/strconv.uint64pow10", laid_internal_strconv_uint64pow10)] }
def CoreTextsSaid : Prop := coreTextsRow.holds Tryz.pinned (OpenSpec.ofChange coreTextsSpec)

/-- ITS FALSE NEIGHBOUR: 'it returns false'. Refute it at one input. -/
def coreTextsWrong : ChangeSpec := { name := "coreTexts", fn := fun _ => fun
  | [d1, d2] => { results := [.lit (.bool false)], args := [d1, d2] }
  | _ => none }
def CoreTextsWrongFalsely : Prop := coreTextsRow.holds Tryz.pinned (OpenSpec.ofChange coreTextsWrong)

/-- 'kalendslaw34.CoreOf': WHATEVER THE INPUT: true; the input reads as it did. -/
def coreOfSpec : ChangeSpec := { name := "coreOf", fn := fun _ => fun
  | [d] => { results := [.lit (.bool true)], args := [d] }
  | _ => none }
def coreOfRow : OpenClaim := { program := "ytcpohkigbaechaagreatdoor", sum := "21370e4322214a61d1ff18e82ac4c37b921440a804062317ea3e3653db31b1b6", func := "kalends/kalendslaw34.CoreOf", spec := "coreOf", unfollowed := true, recurses := true, named := ["internal/strconv.uint64pow10", "math/bits.deBruijn32tab", "math/bits.deBruijn64tab"], apart := false, laid := [("math/bits.deBruijn32tab", laid_math_bits_deBruijn32tab), ("math/bits.deBruijn64tab", laid_math_bits_deBruijn64tab), ("internal/strconv.uint64pow10", laid_internal_strconv_uint64pow10)] }
def CoreOfSaid : Prop := coreOfRow.holds Tryz.pinned (OpenSpec.ofChange coreOfSpec)

/-- ITS FALSE NEIGHBOUR: 'it returns false'. Refute it at one input. -/
def coreOfWrong : ChangeSpec := { name := "coreOf", fn := fun _ => fun
  | [d] => { results := [.lit (.bool false)], args := [d] }
  | _ => none }
def CoreOfWrongFalsely : Prop := coreOfRow.holds Tryz.pinned (OpenSpec.ofChange coreOfWrong)

/-- 'kalendslaw34.CoreParts': WHATEVER THE INPUT: true; the input reads as it did. -/
def corePartsSpec : ChangeSpec := { name := "coreParts", fn := fun _ => fun
  | [d1, d2, d3] => { results := [.lit (.bool true)], args := [d1, d2, d3] }
  | _ => none }
def corePartsRow : OpenClaim := { program := "ytcpohkigbaechaagreatdoor", sum := "21370e4322214a61d1ff18e82ac4c37b921440a804062317ea3e3653db31b1b6", func := "kalends/kalendslaw34.CoreParts", spec := "coreParts", unfollowed := true, recurses := true, named := ["internal/strconv.uint64pow10", "math/bits.deBruijn32tab", "math/bits.deBruijn64tab"], apart := false, laid := [("math/bits.deBruijn32tab", laid_math_bits_deBruijn32tab), ("math/bits.deBruijn64tab", laid_math_bits_deBruijn64tab), ("internal/strconv.uint64pow10", laid_internal_strconv_uint64pow10)] }
def CorePartsSaid : Prop := corePartsRow.holds Tryz.pinned (OpenSpec.ofChange corePartsSpec)

/-- ITS FALSE NEIGHBOUR: 'it returns false'. Refute it at one input. -/
def corePartsWrong : ChangeSpec := { name := "coreParts", fn := fun _ => fun
  | [d1, d2, d3] => { results := [.lit (.bool false)], args := [d1, d2, d3] }
  | _ => none }
def CorePartsWrongFalsely : Prop := corePartsRow.holds Tryz.pinned (OpenSpec.ofChange corePartsWrong)

/- THE SECOND FORM. 'bulk': how many values and letters a reading holds, each counted each time it is reached (what is shared counts as often as it is met; a slice's spare places count too). A statement '..UptoSaid' is the law's where the arguments, and the package variables that the reading takes, are together of bulk at most 1048576: NARROWER than '..Said'. Prove '..Said' where nothing that the law and all that it calls make is longer than what came in: it says more and counts as full. Else prove '..UptoSaid'. A law counts once. -/
mutual
def uptoBulk {H : Type} : DataW H → Nat
  | .lit (.string bytes) => bytes.length + 1
  | .lit _ => 1
  | .nil => 1
  | .ptr d => uptoBulk d + 1
  | .slice elems spare => uptoBulkAll elems + uptoBulkAll spare + 1
  | .agg parts => uptoBulkAll parts + 1
  | .iface _ d => uptoBulk d + 1
  | .map entries => uptoBulkEntries entries + 1
  | .held _ => 1
def uptoBulkAll {H : Type} : List (DataW H) → Nat
  | [] => 0
  | d :: r => uptoBulk d + uptoBulkAll r
def uptoBulkEntries {H : Type} : List (Lit × DataW H) → Nat
  | [] => 0
  | x :: r => uptoBulkEntry x + uptoBulkEntries r
def uptoBulkEntry {H : Type} : Lit × DataW H → Nat
  | (.string bytes, d) => bytes.length + uptoBulk d + 1
  | (_, d) => uptoBulk d + 1
 end
def uptoSmall : (H : Type) → List (DataW H) → Bool := fun _ ds => decide (uptoBulkAll ds ≤ 1048576)
def OpenSpec.upto (s : _root_.Go.ChangeSpec) : _root_.Go.OpenSpec := { _root_.Go.OpenSpec.ofChange s with cond := some uptoSmall }

/-- 'kalendslaw34.CoreMatchesReference', WHERE WHAT IT READS IS OF BULK AT MOST 1048576: true; the input reads as it did. -/
def coreMatchesReferenceUptoRow : OpenClaim := { program := "ytcpohkigbaechaagreatdoor", sum := "21370e4322214a61d1ff18e82ac4c37b921440a804062317ea3e3653db31b1b6", func := "kalends/kalendslaw34.CoreMatchesReference", spec := "coreMatchesReference", unfollowed := true, recurses := true, named := ["internal/strconv.uint64pow10", "math/bits.deBruijn32tab", "math/bits.deBruijn64tab"], apart := false, laid := [("math/bits.deBruijn32tab", laid_math_bits_deBruijn32tab), ("math/bits.deBruijn64tab", laid_math_bits_deBruijn64tab), ("internal/strconv.uint64pow10", laid_internal_strconv_uint64pow10)], narrowed := true }
def CoreMatchesReferenceUptoSaid : Prop := coreMatchesReferenceUptoRow.holds Tryz.pinned (OpenSpec.upto coreMatchesReferenceSpec)

/-- 'kalendslaw34.CoreCertificatesMatchReference', WHERE WHAT IT READS IS OF BULK AT MOST 1048576: true; the input reads as it did. -/
def coreCertificatesMatchReferenceUptoRow : OpenClaim := { program := "ytcpohkigbaechaagreatdoor", sum := "21370e4322214a61d1ff18e82ac4c37b921440a804062317ea3e3653db31b1b6", func := "kalends/kalendslaw34.CoreCertificatesMatchReference", spec := "coreCertificatesMatchReference", unfollowed := true, recurses := true, named := ["internal/strconv.uint64pow10", "math/bits.deBruijn32tab", "math/bits.deBruijn64tab"], apart := false, laid := [("math/bits.deBruijn32tab", laid_math_bits_deBruijn32tab), ("math/bits.deBruijn64tab", laid_math_bits_deBruijn64tab), ("internal/strconv.uint64pow10", laid_internal_strconv_uint64pow10)], narrowed := true }
def CoreCertificatesMatchReferenceUptoSaid : Prop := coreCertificatesMatchReferenceUptoRow.holds Tryz.pinned (OpenSpec.upto coreCertificatesMatchReferenceSpec)

/-- 'kalendslaw34.CoreRawMatchesReference', WHERE WHAT IT READS IS OF BULK AT MOST 1048576: true; the input reads as it did. -/
def coreRawMatchesReferenceUptoRow : OpenClaim := { program := "ytcpohkigbaechaagreatdoor", sum := "21370e4322214a61d1ff18e82ac4c37b921440a804062317ea3e3653db31b1b6", func := "kalends/kalendslaw34.CoreRawMatchesReference", spec := "coreRawMatchesReference", unfollowed := true, recurses := true, named := ["internal/strconv.uint64pow10", "math/bits.deBruijn32tab", "math/bits.deBruijn64tab"], apart := false, laid := [("math/bits.deBruijn32tab", laid_math_bits_deBruijn32tab), ("math/bits.deBruijn64tab", laid_math_bits_deBruijn64tab), ("internal/strconv.uint64pow10", laid_internal_strconv_uint64pow10)], narrowed := true }
def CoreRawMatchesReferenceUptoSaid : Prop := coreRawMatchesReferenceUptoRow.holds Tryz.pinned (OpenSpec.upto coreRawMatchesReferenceSpec)

/-- 'kalendslaw34.CoreProofs', WHERE WHAT IT READS IS OF BULK AT MOST 1048576: true; the input reads as it did. -/
def coreProofsUptoRow : OpenClaim := { program := "ytcpohkigbaechaagreatdoor", sum := "21370e4322214a61d1ff18e82ac4c37b921440a804062317ea3e3653db31b1b6", func := "kalends/kalendslaw34.CoreProofs", spec := "coreProofs", unfollowed := true, recurses := true, named := ["internal/strconv.uint64pow10", "math/bits.deBruijn32tab", "math/bits.deBruijn64tab"], apart := false, laid := [("math/bits.deBruijn32tab", laid_math_bits_deBruijn32tab), ("math/bits.deBruijn64tab", laid_math_bits_deBruijn64tab), ("internal/strconv.uint64pow10", laid_internal_strconv_uint64pow10)], narrowed := true }
def CoreProofsUptoSaid : Prop := coreProofsUptoRow.holds Tryz.pinned (OpenSpec.upto coreProofsSpec)

/-- 'kalendslaw34.CoreAll', WHERE WHAT IT READS IS OF BULK AT MOST 1048576: true; the input reads as it did. -/
def coreAllUptoRow : OpenClaim := { program := "ytcpohkigbaechaagreatdoor", sum := "21370e4322214a61d1ff18e82ac4c37b921440a804062317ea3e3653db31b1b6", func := "kalends/kalendslaw34.CoreAll", spec := "coreAll", unfollowed := true, recurses := true, named := ["internal/strconv.uint64pow10", "math/bits.deBruijn32tab", "math/bits.deBruijn64tab"], apart := false, laid := [("math/bits.deBruijn32tab", laid_math_bits_deBruijn32tab), ("math/bits.deBruijn64tab", laid_math_bits_deBruijn64tab), ("internal/strconv.uint64pow10", laid_internal_strconv_uint64pow10)], narrowed := true }
def CoreAllUptoSaid : Prop := coreAllUptoRow.holds Tryz.pinned (OpenSpec.upto coreAllSpec)

/-- 'kalendslaw34.CoreHarmless', WHERE WHAT IT READS IS OF BULK AT MOST 1048576: true; the input reads as it did. -/
def coreHarmlessUptoRow : OpenClaim := { program := "ytcpohkigbaechaagreatdoor", sum := "21370e4322214a61d1ff18e82ac4c37b921440a804062317ea3e3653db31b1b6", func := "kalends/kalendslaw34.CoreHarmless", spec := "coreHarmless", unfollowed := true, recurses := true, named := ["internal/strconv.uint64pow10", "math/bits.deBruijn32tab", "math/bits.deBruijn64tab"], apart := false, laid := [("math/bits.deBruijn32tab", laid_math_bits_deBruijn32tab), ("math/bits.deBruijn64tab", laid_math_bits_deBruijn64tab), ("internal/strconv.uint64pow10", laid_internal_strconv_uint64pow10)], narrowed := true }
def CoreHarmlessUptoSaid : Prop := coreHarmlessUptoRow.holds Tryz.pinned (OpenSpec.upto coreHarmlessSpec)

/-- 'kalendslaw34.CoreTexts', WHERE WHAT IT READS IS OF BULK AT MOST 1048576: true; the input reads as it did. -/
def coreTextsUptoRow : OpenClaim := { program := "ytcpohkigbaechaagreatdoor", sum := "21370e4322214a61d1ff18e82ac4c37b921440a804062317ea3e3653db31b1b6", func := "kalends/kalendslaw34.CoreTexts", spec := "coreTexts", unfollowed := true, recurses := true, named := ["internal/strconv.uint64pow10", "math/bits.deBruijn32tab", "math/bits.deBruijn64tab"], apart := false, laid := [("math/bits.deBruijn32tab", laid_math_bits_deBruijn32tab), ("math/bits.deBruijn64tab", laid_math_bits_deBruijn64tab), ("internal/strconv.uint64pow10", laid_internal_strconv_uint64pow10)], narrowed := true }
def CoreTextsUptoSaid : Prop := coreTextsUptoRow.holds Tryz.pinned (OpenSpec.upto coreTextsSpec)

/-- 'kalendslaw34.CoreOf', WHERE WHAT IT READS IS OF BULK AT MOST 1048576: true; the input reads as it did. -/
def coreOfUptoRow : OpenClaim := { program := "ytcpohkigbaechaagreatdoor", sum := "21370e4322214a61d1ff18e82ac4c37b921440a804062317ea3e3653db31b1b6", func := "kalends/kalendslaw34.CoreOf", spec := "coreOf", unfollowed := true, recurses := true, named := ["internal/strconv.uint64pow10", "math/bits.deBruijn32tab", "math/bits.deBruijn64tab"], apart := false, laid := [("math/bits.deBruijn32tab", laid_math_bits_deBruijn32tab), ("math/bits.deBruijn64tab", laid_math_bits_deBruijn64tab), ("internal/strconv.uint64pow10", laid_internal_strconv_uint64pow10)], narrowed := true }
def CoreOfUptoSaid : Prop := coreOfUptoRow.holds Tryz.pinned (OpenSpec.upto coreOfSpec)

/-- 'kalendslaw34.CoreParts', WHERE WHAT IT READS IS OF BULK AT MOST 1048576: true; the input reads as it did. -/
def corePartsUptoRow : OpenClaim := { program := "ytcpohkigbaechaagreatdoor", sum := "21370e4322214a61d1ff18e82ac4c37b921440a804062317ea3e3653db31b1b6", func := "kalends/kalendslaw34.CoreParts", spec := "coreParts", unfollowed := true, recurses := true, named := ["internal/strconv.uint64pow10", "math/bits.deBruijn32tab", "math/bits.deBruijn64tab"], apart := false, laid := [("math/bits.deBruijn32tab", laid_math_bits_deBruijn32tab), ("math/bits.deBruijn64tab", laid_math_bits_deBruijn64tab), ("internal/strconv.uint64pow10", laid_internal_strconv_uint64pow10)], narrowed := true }
def CorePartsUptoSaid : Prop := corePartsUptoRow.holds Tryz.pinned (OpenSpec.upto corePartsSpec)

end Rows
end Go.Proofs.YtcpohkigbaechaaGreatDoor
