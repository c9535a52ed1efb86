/-
  No cell of these rows narrows 'for every input' (looked for: loops, veiled, ifaces, maps, wideKeys, modest, calm, conditions, laid).
  DERIVED. THE GIVEN ROWS OF THIS SEAT. 11 by the template 'for every input the law returns true; each argument reads behind the call as it read before'; 0 by the template 'total and deterministic' (their statements: YtfajejelelbmmaaTotals.lean).
  GIVEN WITH THE SEED: the statements are not yours to turn. If you find one false, say at which input.
  Laid BY PROGRAM, IN A SANDBOX (cutbox-rows.mjs): the forced cells as the released guide's own fill.sh prints them over the translation 2f8135c99e6def06… (all of the seat's roots in one cut). By AI agents, Wed Nov 11 2026. No macro, syntax, notation, axiom, sorry.
-/
import Derived.Test.YtfajejelelbmmaaChecked
import GoSem.Claim
import GoSem.ClaimJoined
import GoSem.ClaimMapViews
import Derived.JoinedTies
import Derived.KernelRfl
namespace Go.Proofs.Ytfajejelelbmmaa
/- THE CELL 'sum', in the pinned program and in every row, IS THE sha256 OF THE DUMP (.gsa) THAT YtfajejelelbmmaaProg.lean LOADS. Nothing in Lean hashes anything: it is a label: what it is worth is what the hold of that sum in a sandbox is worth. -/
noncomputable def Try.pinned : Pinned := { name := "ytfajejelelbmmaa", sum := "2f8135c99e6def0671f3aeb2024e9fad9d888a482bca10b426a33c0766fa5dd0", checked := Try.checked }
namespace Rows
def none {H : Type} : Left H := { results := [], args := [] }

/-- 'kalendslaw12.SpanGrowAndGapMatchReference': WHATEVER THE INPUT: true; the input reads as it did. -/
def spanGrowAndGapMatchReferenceSpec : ChangeSpec := { name := "spanGrowAndGapMatchReference", fn := fun _ => fun
  | [d1, d2, d3] => { results := [.lit (.bool true)], args := [d1, d2, d3] }
  | _ => none }
def spanGrowAndGapMatchReferenceRow : OpenClaim := { program := "ytfajejelelbmmaa", sum := "2f8135c99e6def0671f3aeb2024e9fad9d888a482bca10b426a33c0766fa5dd0", func := "kalends/kalendslaw12.SpanGrowAndGapMatchReference", spec := "spanGrowAndGapMatchReference", unfollowed := true, recurses := true, apart := false }
def SpanGrowAndGapMatchReferenceSaid : Prop := spanGrowAndGapMatchReferenceRow.holds Try.pinned (OpenSpec.ofChange spanGrowAndGapMatchReferenceSpec)

/-- ITS FALSE NEIGHBOUR: 'it returns false'. Refute it at one input. -/
def spanGrowAndGapMatchReferenceWrong : ChangeSpec := { name := "spanGrowAndGapMatchReference", fn := fun _ => fun
  | [d1, d2, d3] => { results := [.lit (.bool false)], args := [d1, d2, d3] }
  | _ => none }
def SpanGrowAndGapMatchReferenceWrongFalsely : Prop := spanGrowAndGapMatchReferenceRow.holds Try.pinned (OpenSpec.ofChange spanGrowAndGapMatchReferenceWrong)

/-- 'kalendslaw12.SpanNormIsCanonical': WHATEVER THE INPUT: true; the input reads as it did. -/
def spanNormIsCanonicalSpec : ChangeSpec := { name := "spanNormIsCanonical", fn := fun _ => fun
  | [d1, d2, d3] => { results := [.lit (.bool true)], args := [d1, d2, d3] }
  | _ => none }
def spanNormIsCanonicalRow : OpenClaim := { program := "ytfajejelelbmmaa", sum := "2f8135c99e6def0671f3aeb2024e9fad9d888a482bca10b426a33c0766fa5dd0", func := "kalends/kalendslaw12.SpanNormIsCanonical", spec := "spanNormIsCanonical", unfollowed := true, recurses := true, apart := false }
def SpanNormIsCanonicalSaid : Prop := spanNormIsCanonicalRow.holds Try.pinned (OpenSpec.ofChange spanNormIsCanonicalSpec)

/-- ITS FALSE NEIGHBOUR: 'it returns false'. Refute it at one input. -/
def spanNormIsCanonicalWrong : ChangeSpec := { name := "spanNormIsCanonical", fn := fun _ => fun
  | [d1, d2, d3] => { results := [.lit (.bool false)], args := [d1, d2, d3] }
  | _ => none }
def SpanNormIsCanonicalWrongFalsely : Prop := spanNormIsCanonicalRow.holds Try.pinned (OpenSpec.ofChange spanNormIsCanonicalWrong)

/-- 'kalendslaw12.SpanTotals': WHATEVER THE INPUT: true; the input reads as it did. -/
def spanTotalsSpec : ChangeSpec := { name := "spanTotals", fn := fun _ => fun
  | [d1, d2] => { results := [.lit (.bool true)], args := [d1, d2] }
  | _ => none }
def spanTotalsRow : OpenClaim := { program := "ytfajejelelbmmaa", sum := "2f8135c99e6def0671f3aeb2024e9fad9d888a482bca10b426a33c0766fa5dd0", func := "kalends/kalendslaw12.SpanTotals", spec := "spanTotals", unfollowed := true, recurses := true, apart := false }
def SpanTotalsSaid : Prop := spanTotalsRow.holds Try.pinned (OpenSpec.ofChange spanTotalsSpec)

/-- ITS FALSE NEIGHBOUR: 'it returns false'. Refute it at one input. -/
def spanTotalsWrong : ChangeSpec := { name := "spanTotals", fn := fun _ => fun
  | [d1, d2] => { results := [.lit (.bool false)], args := [d1, d2] }
  | _ => none }
def SpanTotalsWrongFalsely : Prop := spanTotalsRow.holds Try.pinned (OpenSpec.ofChange spanTotalsWrong)

/-- 'kalendslaw12.SpanGapIsFirst': WHATEVER THE INPUT: true; the input reads as it did. -/
def spanGapIsFirstSpec : ChangeSpec := { name := "spanGapIsFirst", fn := fun _ => fun
  | [d1, d2, d3] => { results := [.lit (.bool true)], args := [d1, d2, d3] }
  | _ => none }
def spanGapIsFirstRow : OpenClaim := { program := "ytfajejelelbmmaa", sum := "2f8135c99e6def0671f3aeb2024e9fad9d888a482bca10b426a33c0766fa5dd0", func := "kalends/kalendslaw12.SpanGapIsFirst", spec := "spanGapIsFirst", unfollowed := true, recurses := true, apart := false }
def SpanGapIsFirstSaid : Prop := spanGapIsFirstRow.holds Try.pinned (OpenSpec.ofChange spanGapIsFirstSpec)

/-- ITS FALSE NEIGHBOUR: 'it returns false'. Refute it at one input. -/
def spanGapIsFirstWrong : ChangeSpec := { name := "spanGapIsFirst", fn := fun _ => fun
  | [d1, d2, d3] => { results := [.lit (.bool false)], args := [d1, d2, d3] }
  | _ => none }
def SpanGapIsFirstWrongFalsely : Prop := spanGapIsFirstRow.holds Try.pinned (OpenSpec.ofChange spanGapIsFirstWrong)

/-- 'kalendslaw12.SpanTranslation': WHATEVER THE INPUT: true; the input reads as it did. -/
def spanTranslationSpec : ChangeSpec := { name := "spanTranslation", fn := fun _ => fun
  | [d1, d2, d3] => { results := [.lit (.bool true)], args := [d1, d2, d3] }
  | _ => none }
def spanTranslationRow : OpenClaim := { program := "ytfajejelelbmmaa", sum := "2f8135c99e6def0671f3aeb2024e9fad9d888a482bca10b426a33c0766fa5dd0", func := "kalends/kalendslaw12.SpanTranslation", spec := "spanTranslation", unfollowed := true, recurses := true, apart := false }
def SpanTranslationSaid : Prop := spanTranslationRow.holds Try.pinned (OpenSpec.ofChange spanTranslationSpec)

/-- ITS FALSE NEIGHBOUR: 'it returns false'. Refute it at one input. -/
def spanTranslationWrong : ChangeSpec := { name := "spanTranslation", fn := fun _ => fun
  | [d1, d2, d3] => { results := [.lit (.bool false)], args := [d1, d2, d3] }
  | _ => none }
def SpanTranslationWrongFalsely : Prop := spanTranslationRow.holds Try.pinned (OpenSpec.ofChange spanTranslationWrong)

/-- 'kalendslaw12.SpanMatchesReference': WHATEVER THE INPUT: true; the input reads as it did. -/
def spanMatchesReferenceSpec : ChangeSpec := { name := "spanMatchesReference", fn := fun _ => fun
  | [d1, d2] => { results := [.lit (.bool true)], args := [d1, d2] }
  | _ => none }
def spanMatchesReferenceRow : OpenClaim := { program := "ytfajejelelbmmaa", sum := "2f8135c99e6def0671f3aeb2024e9fad9d888a482bca10b426a33c0766fa5dd0", func := "kalends/kalendslaw12.SpanMatchesReference", spec := "spanMatchesReference", unfollowed := true, recurses := true, apart := false }
def SpanMatchesReferenceSaid : Prop := spanMatchesReferenceRow.holds Try.pinned (OpenSpec.ofChange spanMatchesReferenceSpec)

/-- ITS FALSE NEIGHBOUR: 'it returns false'. Refute it at one input. -/
def spanMatchesReferenceWrong : ChangeSpec := { name := "spanMatchesReference", fn := fun _ => fun
  | [d1, d2] => { results := [.lit (.bool false)], args := [d1, d2] }
  | _ => none }
def SpanMatchesReferenceWrongFalsely : Prop := spanMatchesReferenceRow.holds Try.pinned (OpenSpec.ofChange spanMatchesReferenceWrong)

/-- 'kalendslaw12.SpanAlgebra': WHATEVER THE INPUT: true; the input reads as it did. -/
def spanAlgebraSpec : ChangeSpec := { name := "spanAlgebra", fn := fun _ => fun
  | [d1, d2, d3] => { results := [.lit (.bool true)], args := [d1, d2, d3] }
  | _ => none }
def spanAlgebraRow : OpenClaim := { program := "ytfajejelelbmmaa", sum := "2f8135c99e6def0671f3aeb2024e9fad9d888a482bca10b426a33c0766fa5dd0", func := "kalends/kalendslaw12.SpanAlgebra", spec := "spanAlgebra", unfollowed := true, recurses := true, apart := false }
def SpanAlgebraSaid : Prop := spanAlgebraRow.holds Try.pinned (OpenSpec.ofChange spanAlgebraSpec)

/-- ITS FALSE NEIGHBOUR: 'it returns false'. Refute it at one input. -/
def spanAlgebraWrong : ChangeSpec := { name := "spanAlgebra", fn := fun _ => fun
  | [d1, d2, d3] => { results := [.lit (.bool false)], args := [d1, d2, d3] }
  | _ => none }
def SpanAlgebraWrongFalsely : Prop := spanAlgebraRow.holds Try.pinned (OpenSpec.ofChange spanAlgebraWrong)

/-- 'kalendslaw12.SpanWithin': WHATEVER THE INPUT: true; the input reads as it did. -/
def spanWithinSpec : ChangeSpec := { name := "spanWithin", fn := fun _ => fun
  | [d1, d2] => { results := [.lit (.bool true)], args := [d1, d2] }
  | _ => none }
def spanWithinRow : OpenClaim := { program := "ytfajejelelbmmaa", sum := "2f8135c99e6def0671f3aeb2024e9fad9d888a482bca10b426a33c0766fa5dd0", func := "kalends/kalendslaw12.SpanWithin", spec := "spanWithin", unfollowed := true, recurses := true, apart := false }
def SpanWithinSaid : Prop := spanWithinRow.holds Try.pinned (OpenSpec.ofChange spanWithinSpec)

/-- ITS FALSE NEIGHBOUR: 'it returns false'. Refute it at one input. -/
def spanWithinWrong : ChangeSpec := { name := "spanWithin", fn := fun _ => fun
  | [d1, d2] => { results := [.lit (.bool false)], args := [d1, d2] }
  | _ => none }
def SpanWithinWrongFalsely : Prop := spanWithinRow.holds Try.pinned (OpenSpec.ofChange spanWithinWrong)

/-- 'kalendslaw12.SpanGrowIsNeighborhood': WHATEVER THE INPUT: true; the input reads as it did. -/
def spanGrowIsNeighborhoodSpec : ChangeSpec := { name := "spanGrowIsNeighborhood", fn := fun _ => fun
  | [d1, d2, d3] => { results := [.lit (.bool true)], args := [d1, d2, d3] }
  | _ => none }
def spanGrowIsNeighborhoodRow : OpenClaim := { program := "ytfajejelelbmmaa", sum := "2f8135c99e6def0671f3aeb2024e9fad9d888a482bca10b426a33c0766fa5dd0", func := "kalends/kalendslaw12.SpanGrowIsNeighborhood", spec := "spanGrowIsNeighborhood", unfollowed := true, recurses := true, apart := false }
def SpanGrowIsNeighborhoodSaid : Prop := spanGrowIsNeighborhoodRow.holds Try.pinned (OpenSpec.ofChange spanGrowIsNeighborhoodSpec)

/-- ITS FALSE NEIGHBOUR: 'it returns false'. Refute it at one input. -/
def spanGrowIsNeighborhoodWrong : ChangeSpec := { name := "spanGrowIsNeighborhood", fn := fun _ => fun
  | [d1, d2, d3] => { results := [.lit (.bool false)], args := [d1, d2, d3] }
  | _ => none }
def SpanGrowIsNeighborhoodWrongFalsely : Prop := spanGrowIsNeighborhoodRow.holds Try.pinned (OpenSpec.ofChange spanGrowIsNeighborhoodWrong)

/-- 'kalendslaw12.SpanPurity': WHATEVER THE INPUT: true; the input reads as it did. -/
def spanPuritySpec : ChangeSpec := { name := "spanPurity", fn := fun _ => fun
  | [d1, d2] => { results := [.lit (.bool true)], args := [d1, d2] }
  | _ => none }
def spanPurityRow : OpenClaim := { program := "ytfajejelelbmmaa", sum := "2f8135c99e6def0671f3aeb2024e9fad9d888a482bca10b426a33c0766fa5dd0", func := "kalends/kalendslaw12.SpanPurity", spec := "spanPurity", unfollowed := true, recurses := true, apart := false }
def SpanPuritySaid : Prop := spanPurityRow.holds Try.pinned (OpenSpec.ofChange spanPuritySpec)

/-- ITS FALSE NEIGHBOUR: 'it returns false'. Refute it at one input. -/
def spanPurityWrong : ChangeSpec := { name := "spanPurity", fn := fun _ => fun
  | [d1, d2] => { results := [.lit (.bool false)], args := [d1, d2] }
  | _ => none }
def SpanPurityWrongFalsely : Prop := spanPurityRow.holds Try.pinned (OpenSpec.ofChange spanPurityWrong)

/-- 'kalendslaw12.SpanMembership': WHATEVER THE INPUT: true; the input reads as it did. -/
def spanMembershipSpec : ChangeSpec := { name := "spanMembership", fn := fun _ => fun
  | [d1, d2, d3] => { results := [.lit (.bool true)], args := [d1, d2, d3] }
  | _ => none }
def spanMembershipRow : OpenClaim := { program := "ytfajejelelbmmaa", sum := "2f8135c99e6def0671f3aeb2024e9fad9d888a482bca10b426a33c0766fa5dd0", func := "kalends/kalendslaw12.SpanMembership", spec := "spanMembership", unfollowed := true, recurses := true, apart := false }
def SpanMembershipSaid : Prop := spanMembershipRow.holds Try.pinned (OpenSpec.ofChange spanMembershipSpec)

/-- ITS FALSE NEIGHBOUR: 'it returns false'. Refute it at one input. -/
def spanMembershipWrong : ChangeSpec := { name := "spanMembership", fn := fun _ => fun
  | [d1, d2, d3] => { results := [.lit (.bool false)], args := [d1, d2, d3] }
  | _ => none }
def SpanMembershipWrongFalsely : Prop := spanMembershipRow.holds Try.pinned (OpenSpec.ofChange spanMembershipWrong)

/- THE SECOND FORM. 'bulk': how many values and letters a reading holds, each counted each time it is reached (what is shared counts as often as it is met; a slice's spare places count too). A statement '..UptoSaid' is the law's where the arguments, and the package variables that the reading takes, are together of bulk at most 1048576: NARROWER than '..Said'. Prove '..Said' where nothing that the law and all that it calls make is longer than what came in: it says more and counts as full. Else prove '..UptoSaid'. A law counts once. -/
mutual
def uptoBulk {H : Type} : DataW H → Nat
  | .lit (.string bytes) => bytes.length + 1
  | .lit _ => 1
  | .nil => 1
  | .ptr d => uptoBulk d + 1
  | .slice elems spare => uptoBulkAll elems + uptoBulkAll spare + 1
  | .agg parts => uptoBulkAll parts + 1
  | .iface _ d => uptoBulk d + 1
  | .map entries => uptoBulkEntries entries + 1
  | .held _ => 1
def uptoBulkAll {H : Type} : List (DataW H) → Nat
  | [] => 0
  | d :: r => uptoBulk d + uptoBulkAll r
def uptoBulkEntries {H : Type} : List (Lit × DataW H) → Nat
  | [] => 0
  | x :: r => uptoBulkEntry x + uptoBulkEntries r
def uptoBulkEntry {H : Type} : Lit × DataW H → Nat
  | (.string bytes, d) => bytes.length + uptoBulk d + 1
  | (_, d) => uptoBulk d + 1
 end
def uptoSmall : (H : Type) → List (DataW H) → Bool := fun _ ds => decide (uptoBulkAll ds ≤ 1048576)
def OpenSpec.upto (s : _root_.Go.ChangeSpec) : _root_.Go.OpenSpec := { _root_.Go.OpenSpec.ofChange s with cond := some uptoSmall }

/-- 'kalendslaw12.SpanGrowAndGapMatchReference', WHERE WHAT IT READS IS OF BULK AT MOST 1048576: true; the input reads as it did. -/
def spanGrowAndGapMatchReferenceUptoRow : OpenClaim := { program := "ytfajejelelbmmaa", sum := "2f8135c99e6def0671f3aeb2024e9fad9d888a482bca10b426a33c0766fa5dd0", func := "kalends/kalendslaw12.SpanGrowAndGapMatchReference", spec := "spanGrowAndGapMatchReference", unfollowed := true, recurses := true, apart := false, narrowed := true }
def SpanGrowAndGapMatchReferenceUptoSaid : Prop := spanGrowAndGapMatchReferenceUptoRow.holds Try.pinned (OpenSpec.upto spanGrowAndGapMatchReferenceSpec)

/-- 'kalendslaw12.SpanNormIsCanonical', WHERE WHAT IT READS IS OF BULK AT MOST 1048576: true; the input reads as it did. -/
def spanNormIsCanonicalUptoRow : OpenClaim := { program := "ytfajejelelbmmaa", sum := "2f8135c99e6def0671f3aeb2024e9fad9d888a482bca10b426a33c0766fa5dd0", func := "kalends/kalendslaw12.SpanNormIsCanonical", spec := "spanNormIsCanonical", unfollowed := true, recurses := true, apart := false, narrowed := true }
def SpanNormIsCanonicalUptoSaid : Prop := spanNormIsCanonicalUptoRow.holds Try.pinned (OpenSpec.upto spanNormIsCanonicalSpec)

/-- 'kalendslaw12.SpanTotals', WHERE WHAT IT READS IS OF BULK AT MOST 1048576: true; the input reads as it did. -/
def spanTotalsUptoRow : OpenClaim := { program := "ytfajejelelbmmaa", sum := "2f8135c99e6def0671f3aeb2024e9fad9d888a482bca10b426a33c0766fa5dd0", func := "kalends/kalendslaw12.SpanTotals", spec := "spanTotals", unfollowed := true, recurses := true, apart := false, narrowed := true }
def SpanTotalsUptoSaid : Prop := spanTotalsUptoRow.holds Try.pinned (OpenSpec.upto spanTotalsSpec)

/-- 'kalendslaw12.SpanGapIsFirst', WHERE WHAT IT READS IS OF BULK AT MOST 1048576: true; the input reads as it did. -/
def spanGapIsFirstUptoRow : OpenClaim := { program := "ytfajejelelbmmaa", sum := "2f8135c99e6def0671f3aeb2024e9fad9d888a482bca10b426a33c0766fa5dd0", func := "kalends/kalendslaw12.SpanGapIsFirst", spec := "spanGapIsFirst", unfollowed := true, recurses := true, apart := false, narrowed := true }
def SpanGapIsFirstUptoSaid : Prop := spanGapIsFirstUptoRow.holds Try.pinned (OpenSpec.upto spanGapIsFirstSpec)

/-- 'kalendslaw12.SpanTranslation', WHERE WHAT IT READS IS OF BULK AT MOST 1048576: true; the input reads as it did. -/
def spanTranslationUptoRow : OpenClaim := { program := "ytfajejelelbmmaa", sum := "2f8135c99e6def0671f3aeb2024e9fad9d888a482bca10b426a33c0766fa5dd0", func := "kalends/kalendslaw12.SpanTranslation", spec := "spanTranslation", unfollowed := true, recurses := true, apart := false, narrowed := true }
def SpanTranslationUptoSaid : Prop := spanTranslationUptoRow.holds Try.pinned (OpenSpec.upto spanTranslationSpec)

/-- 'kalendslaw12.SpanMatchesReference', WHERE WHAT IT READS IS OF BULK AT MOST 1048576: true; the input reads as it did. -/
def spanMatchesReferenceUptoRow : OpenClaim := { program := "ytfajejelelbmmaa", sum := "2f8135c99e6def0671f3aeb2024e9fad9d888a482bca10b426a33c0766fa5dd0", func := "kalends/kalendslaw12.SpanMatchesReference", spec := "spanMatchesReference", unfollowed := true, recurses := true, apart := false, narrowed := true }
def SpanMatchesReferenceUptoSaid : Prop := spanMatchesReferenceUptoRow.holds Try.pinned (OpenSpec.upto spanMatchesReferenceSpec)

/-- 'kalendslaw12.SpanAlgebra', WHERE WHAT IT READS IS OF BULK AT MOST 1048576: true; the input reads as it did. -/
def spanAlgebraUptoRow : OpenClaim := { program := "ytfajejelelbmmaa", sum := "2f8135c99e6def0671f3aeb2024e9fad9d888a482bca10b426a33c0766fa5dd0", func := "kalends/kalendslaw12.SpanAlgebra", spec := "spanAlgebra", unfollowed := true, recurses := true, apart := false, narrowed := true }
def SpanAlgebraUptoSaid : Prop := spanAlgebraUptoRow.holds Try.pinned (OpenSpec.upto spanAlgebraSpec)

/-- 'kalendslaw12.SpanWithin', WHERE WHAT IT READS IS OF BULK AT MOST 1048576: true; the input reads as it did. -/
def spanWithinUptoRow : OpenClaim := { program := "ytfajejelelbmmaa", sum := "2f8135c99e6def0671f3aeb2024e9fad9d888a482bca10b426a33c0766fa5dd0", func := "kalends/kalendslaw12.SpanWithin", spec := "spanWithin", unfollowed := true, recurses := true, apart := false, narrowed := true }
def SpanWithinUptoSaid : Prop := spanWithinUptoRow.holds Try.pinned (OpenSpec.upto spanWithinSpec)

/-- 'kalendslaw12.SpanGrowIsNeighborhood', WHERE WHAT IT READS IS OF BULK AT MOST 1048576: true; the input reads as it did. -/
def spanGrowIsNeighborhoodUptoRow : OpenClaim := { program := "ytfajejelelbmmaa", sum := "2f8135c99e6def0671f3aeb2024e9fad9d888a482bca10b426a33c0766fa5dd0", func := "kalends/kalendslaw12.SpanGrowIsNeighborhood", spec := "spanGrowIsNeighborhood", unfollowed := true, recurses := true, apart := false, narrowed := true }
def SpanGrowIsNeighborhoodUptoSaid : Prop := spanGrowIsNeighborhoodUptoRow.holds Try.pinned (OpenSpec.upto spanGrowIsNeighborhoodSpec)

/-- 'kalendslaw12.SpanPurity', WHERE WHAT IT READS IS OF BULK AT MOST 1048576: true; the input reads as it did. -/
def spanPurityUptoRow : OpenClaim := { program := "ytfajejelelbmmaa", sum := "2f8135c99e6def0671f3aeb2024e9fad9d888a482bca10b426a33c0766fa5dd0", func := "kalends/kalendslaw12.SpanPurity", spec := "spanPurity", unfollowed := true, recurses := true, apart := false, narrowed := true }
def SpanPurityUptoSaid : Prop := spanPurityUptoRow.holds Try.pinned (OpenSpec.upto spanPuritySpec)

/-- 'kalendslaw12.SpanMembership', WHERE WHAT IT READS IS OF BULK AT MOST 1048576: true; the input reads as it did. -/
def spanMembershipUptoRow : OpenClaim := { program := "ytfajejelelbmmaa", sum := "2f8135c99e6def0671f3aeb2024e9fad9d888a482bca10b426a33c0766fa5dd0", func := "kalends/kalendslaw12.SpanMembership", spec := "spanMembership", unfollowed := true, recurses := true, apart := false, narrowed := true }
def SpanMembershipUptoSaid : Prop := spanMembershipUptoRow.holds Try.pinned (OpenSpec.upto spanMembershipSpec)

end Rows
end Go.Proofs.Ytfajejelelbmmaa
