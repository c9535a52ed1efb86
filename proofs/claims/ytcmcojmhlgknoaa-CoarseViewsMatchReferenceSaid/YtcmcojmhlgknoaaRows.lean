/-
  No cell of these rows narrows 'for every input' (looked for: loops, veiled, ifaces, maps, wideKeys, modest, calm, conditions, laid).
  DERIVED. THE GIVEN ROWS OF THIS SEAT. 8 by the template 'for every input the law returns true; each argument reads behind the call as it read before'; 0 by the template 'total and deterministic' (their statements: YtcmcojmhlgknoaaTotals.lean).
  GIVEN WITH THE SEED: the statements are not yours to turn. If you find one false, say at which input.
  Laid BY PROGRAM, IN A SANDBOX (cutbox-rows.mjs): the forced cells as the released guide's own fill.sh prints them over the translation f480e184cb78c9cc… (all of the seat's roots in one cut). By AI agents, Wed Nov 11 2026. No macro, syntax, notation, axiom, sorry.
-/
import Derived.Test.YtcmcojmhlgknoaaChecked
import GoSem.Claim
import GoSem.ClaimJoined
import GoSem.ClaimMapViews
import Derived.JoinedTies
import Derived.KernelRfl
namespace Go.Proofs.Ytcmcojmhlgknoaa
/- THE CELL 'sum', in the pinned program and in every row, IS THE sha256 OF THE DUMP (.gsa) THAT YtcmcojmhlgknoaaProg.lean LOADS. Nothing in Lean hashes anything: it is a label: what it is worth is what the hold of that sum in a sandbox is worth. -/
noncomputable def Try.pinned : Pinned := { name := "ytcmcojmhlgknoaa", sum := "f480e184cb78c9cc8a8544eb69633f205f8fe5e4d4ed8c5c0cf07ebb2396d2d9", checked := Try.checked }
namespace Rows
def none {H : Type} : Left H := { results := [], args := [] }

/-- 'kalendslaw26.CoarseViewsMatchReference': WHATEVER THE INPUT: true; the input reads as it did. -/
def coarseViewsMatchReferenceSpec : ChangeSpec := { name := "coarseViewsMatchReference", fn := fun _ => fun
  | [d1, d2] => { results := [.lit (.bool true)], args := [d1, d2] }
  | _ => none }
def coarseViewsMatchReferenceRow : OpenClaim := { program := "ytcmcojmhlgknoaa", sum := "f480e184cb78c9cc8a8544eb69633f205f8fe5e4d4ed8c5c0cf07ebb2396d2d9", func := "kalends/kalendslaw26.CoarseViewsMatchReference", spec := "coarseViewsMatchReference", unfollowed := true, recurses := true, apart := false }
def CoarseViewsMatchReferenceSaid : Prop := coarseViewsMatchReferenceRow.holds Try.pinned (OpenSpec.ofChange coarseViewsMatchReferenceSpec)

/-- ITS FALSE NEIGHBOUR: 'it returns false'. Refute it at one input. -/
def coarseViewsMatchReferenceWrong : ChangeSpec := { name := "coarseViewsMatchReference", fn := fun _ => fun
  | [d1, d2] => { results := [.lit (.bool false)], args := [d1, d2] }
  | _ => none }
def CoarseViewsMatchReferenceWrongFalsely : Prop := coarseViewsMatchReferenceRow.holds Try.pinned (OpenSpec.ofChange coarseViewsMatchReferenceWrong)

/-- 'kalendslaw26.CoarseFits': WHATEVER THE INPUT: true; the input reads as it did. -/
def coarseFitsSpec : ChangeSpec := { name := "coarseFits", fn := fun _ => fun
  | [d1, d2, d3] => { results := [.lit (.bool true)], args := [d1, d2, d3] }
  | _ => none }
def coarseFitsRow : OpenClaim := { program := "ytcmcojmhlgknoaa", sum := "f480e184cb78c9cc8a8544eb69633f205f8fe5e4d4ed8c5c0cf07ebb2396d2d9", func := "kalends/kalendslaw26.CoarseFits", spec := "coarseFits", unfollowed := true, recurses := true, apart := false }
def CoarseFitsSaid : Prop := coarseFitsRow.holds Try.pinned (OpenSpec.ofChange coarseFitsSpec)

/-- ITS FALSE NEIGHBOUR: 'it returns false'. Refute it at one input. -/
def coarseFitsWrong : ChangeSpec := { name := "coarseFits", fn := fun _ => fun
  | [d1, d2, d3] => { results := [.lit (.bool false)], args := [d1, d2, d3] }
  | _ => none }
def CoarseFitsWrongFalsely : Prop := coarseFitsRow.holds Try.pinned (OpenSpec.ofChange coarseFitsWrong)

/-- 'kalendslaw26.CoarseGrows': WHATEVER THE INPUT: true; the input reads as it did. -/
def coarseGrowsSpec : ChangeSpec := { name := "coarseGrows", fn := fun _ => fun
  | [d1, d2, d3] => { results := [.lit (.bool true)], args := [d1, d2, d3] }
  | _ => none }
def coarseGrowsRow : OpenClaim := { program := "ytcmcojmhlgknoaa", sum := "f480e184cb78c9cc8a8544eb69633f205f8fe5e4d4ed8c5c0cf07ebb2396d2d9", func := "kalends/kalendslaw26.CoarseGrows", spec := "coarseGrows", unfollowed := true, recurses := true, apart := false }
def CoarseGrowsSaid : Prop := coarseGrowsRow.holds Try.pinned (OpenSpec.ofChange coarseGrowsSpec)

/-- ITS FALSE NEIGHBOUR: 'it returns false'. Refute it at one input. -/
def coarseGrowsWrong : ChangeSpec := { name := "coarseGrows", fn := fun _ => fun
  | [d1, d2, d3] => { results := [.lit (.bool false)], args := [d1, d2, d3] }
  | _ => none }
def CoarseGrowsWrongFalsely : Prop := coarseGrowsRow.holds Try.pinned (OpenSpec.ofChange coarseGrowsWrong)

/-- 'kalendslaw26.CoarseMatchesReference': WHATEVER THE INPUT: true; the input reads as it did. -/
def coarseMatchesReferenceSpec : ChangeSpec := { name := "coarseMatchesReference", fn := fun _ => fun
  | [d1, d2, d3] => { results := [.lit (.bool true)], args := [d1, d2, d3] }
  | _ => none }
def coarseMatchesReferenceRow : OpenClaim := { program := "ytcmcojmhlgknoaa", sum := "f480e184cb78c9cc8a8544eb69633f205f8fe5e4d4ed8c5c0cf07ebb2396d2d9", func := "kalends/kalendslaw26.CoarseMatchesReference", spec := "coarseMatchesReference", unfollowed := true, recurses := true, apart := false }
def CoarseMatchesReferenceSaid : Prop := coarseMatchesReferenceRow.holds Try.pinned (OpenSpec.ofChange coarseMatchesReferenceSpec)

/-- ITS FALSE NEIGHBOUR: 'it returns false'. Refute it at one input. -/
def coarseMatchesReferenceWrong : ChangeSpec := { name := "coarseMatchesReference", fn := fun _ => fun
  | [d1, d2, d3] => { results := [.lit (.bool false)], args := [d1, d2, d3] }
  | _ => none }
def CoarseMatchesReferenceWrongFalsely : Prop := coarseMatchesReferenceRow.holds Try.pinned (OpenSpec.ofChange coarseMatchesReferenceWrong)

/-- 'kalendslaw26.CoarseHides': WHATEVER THE INPUT: true; the input reads as it did. -/
def coarseHidesSpec : ChangeSpec := { name := "coarseHides", fn := fun _ => fun
  | [d1, d2, d3] => { results := [.lit (.bool true)], args := [d1, d2, d3] }
  | _ => none }
def coarseHidesRow : OpenClaim := { program := "ytcmcojmhlgknoaa", sum := "f480e184cb78c9cc8a8544eb69633f205f8fe5e4d4ed8c5c0cf07ebb2396d2d9", func := "kalends/kalendslaw26.CoarseHides", spec := "coarseHides", unfollowed := true, recurses := true, apart := false }
def CoarseHidesSaid : Prop := coarseHidesRow.holds Try.pinned (OpenSpec.ofChange coarseHidesSpec)

/-- ITS FALSE NEIGHBOUR: 'it returns false'. Refute it at one input. -/
def coarseHidesWrong : ChangeSpec := { name := "coarseHides", fn := fun _ => fun
  | [d1, d2, d3] => { results := [.lit (.bool false)], args := [d1, d2, d3] }
  | _ => none }
def CoarseHidesWrongFalsely : Prop := coarseHidesRow.holds Try.pinned (OpenSpec.ofChange coarseHidesWrong)

/-- 'kalendslaw26.CoarseGrains': WHATEVER THE INPUT: true; the input reads as it did. -/
def coarseGrainsSpec : ChangeSpec := { name := "coarseGrains", fn := fun _ => fun
  | [d1, d2, d3] => { results := [.lit (.bool true)], args := [d1, d2, d3] }
  | _ => none }
def coarseGrainsRow : OpenClaim := { program := "ytcmcojmhlgknoaa", sum := "f480e184cb78c9cc8a8544eb69633f205f8fe5e4d4ed8c5c0cf07ebb2396d2d9", func := "kalends/kalendslaw26.CoarseGrains", spec := "coarseGrains", unfollowed := true, recurses := true, apart := false }
def CoarseGrainsSaid : Prop := coarseGrainsRow.holds Try.pinned (OpenSpec.ofChange coarseGrainsSpec)

/-- ITS FALSE NEIGHBOUR: 'it returns false'. Refute it at one input. -/
def coarseGrainsWrong : ChangeSpec := { name := "coarseGrains", fn := fun _ => fun
  | [d1, d2, d3] => { results := [.lit (.bool false)], args := [d1, d2, d3] }
  | _ => none }
def CoarseGrainsWrongFalsely : Prop := coarseGrainsRow.holds Try.pinned (OpenSpec.ofChange coarseGrainsWrong)

/-- 'kalendslaw26.CoarseWitnesses': WHATEVER THE INPUT: true; the input reads as it did. -/
def coarseWitnessesSpec : ChangeSpec := { name := "coarseWitnesses", fn := fun _ => fun
  | [d1, d2] => { results := [.lit (.bool true)], args := [d1, d2] }
  | _ => none }
def coarseWitnessesRow : OpenClaim := { program := "ytcmcojmhlgknoaa", sum := "f480e184cb78c9cc8a8544eb69633f205f8fe5e4d4ed8c5c0cf07ebb2396d2d9", func := "kalends/kalendslaw26.CoarseWitnesses", spec := "coarseWitnesses", unfollowed := true, recurses := true, apart := false }
def CoarseWitnessesSaid : Prop := coarseWitnessesRow.holds Try.pinned (OpenSpec.ofChange coarseWitnessesSpec)

/-- ITS FALSE NEIGHBOUR: 'it returns false'. Refute it at one input. -/
def coarseWitnessesWrong : ChangeSpec := { name := "coarseWitnesses", fn := fun _ => fun
  | [d1, d2] => { results := [.lit (.bool false)], args := [d1, d2] }
  | _ => none }
def CoarseWitnessesWrongFalsely : Prop := coarseWitnessesRow.holds Try.pinned (OpenSpec.ofChange coarseWitnessesWrong)

/-- 'kalendslaw26.CoarseRejectsInvalid': WHATEVER THE INPUT: true; the input reads as it did. -/
def coarseRejectsInvalidSpec : ChangeSpec := { name := "coarseRejectsInvalid", fn := fun _ => fun
  | [d1, d2, d3] => { results := [.lit (.bool true)], args := [d1, d2, d3] }
  | _ => none }
def coarseRejectsInvalidRow : OpenClaim := { program := "ytcmcojmhlgknoaa", sum := "f480e184cb78c9cc8a8544eb69633f205f8fe5e4d4ed8c5c0cf07ebb2396d2d9", func := "kalends/kalendslaw26.CoarseRejectsInvalid", spec := "coarseRejectsInvalid", unfollowed := true, recurses := true, apart := false }
def CoarseRejectsInvalidSaid : Prop := coarseRejectsInvalidRow.holds Try.pinned (OpenSpec.ofChange coarseRejectsInvalidSpec)

/-- ITS FALSE NEIGHBOUR: 'it returns false'. Refute it at one input. -/
def coarseRejectsInvalidWrong : ChangeSpec := { name := "coarseRejectsInvalid", fn := fun _ => fun
  | [d1, d2, d3] => { results := [.lit (.bool false)], args := [d1, d2, d3] }
  | _ => none }
def CoarseRejectsInvalidWrongFalsely : Prop := coarseRejectsInvalidRow.holds Try.pinned (OpenSpec.ofChange coarseRejectsInvalidWrong)

/- THE SECOND FORM. 'bulk': how many values and letters a reading holds, each counted each time it is reached (what is shared counts as often as it is met; a slice's spare places count too). A statement '..UptoSaid' is the law's where the arguments, and the package variables that the reading takes, are together of bulk at most 1048576: NARROWER than '..Said'. Prove '..Said' where nothing that the law and all that it calls make is longer than what came in: it says more and counts as full. Else prove '..UptoSaid'. A law counts once. -/
mutual
def uptoBulk {H : Type} : DataW H → Nat
  | .lit (.string bytes) => bytes.length + 1
  | .lit _ => 1
  | .nil => 1
  | .ptr d => uptoBulk d + 1
  | .slice elems spare => uptoBulkAll elems + uptoBulkAll spare + 1
  | .agg parts => uptoBulkAll parts + 1
  | .iface _ d => uptoBulk d + 1
  | .map entries => uptoBulkEntries entries + 1
  | .held _ => 1
def uptoBulkAll {H : Type} : List (DataW H) → Nat
  | [] => 0
  | d :: r => uptoBulk d + uptoBulkAll r
def uptoBulkEntries {H : Type} : List (Lit × DataW H) → Nat
  | [] => 0
  | x :: r => uptoBulkEntry x + uptoBulkEntries r
def uptoBulkEntry {H : Type} : Lit × DataW H → Nat
  | (.string bytes, d) => bytes.length + uptoBulk d + 1
  | (_, d) => uptoBulk d + 1
 end
def uptoSmall : (H : Type) → List (DataW H) → Bool := fun _ ds => decide (uptoBulkAll ds ≤ 1048576)
def OpenSpec.upto (s : _root_.Go.ChangeSpec) : _root_.Go.OpenSpec := { _root_.Go.OpenSpec.ofChange s with cond := some uptoSmall }

/-- 'kalendslaw26.CoarseViewsMatchReference', WHERE WHAT IT READS IS OF BULK AT MOST 1048576: true; the input reads as it did. -/
def coarseViewsMatchReferenceUptoRow : OpenClaim := { program := "ytcmcojmhlgknoaa", sum := "f480e184cb78c9cc8a8544eb69633f205f8fe5e4d4ed8c5c0cf07ebb2396d2d9", func := "kalends/kalendslaw26.CoarseViewsMatchReference", spec := "coarseViewsMatchReference", unfollowed := true, recurses := true, apart := false, narrowed := true }
def CoarseViewsMatchReferenceUptoSaid : Prop := coarseViewsMatchReferenceUptoRow.holds Try.pinned (OpenSpec.upto coarseViewsMatchReferenceSpec)

/-- 'kalendslaw26.CoarseFits', WHERE WHAT IT READS IS OF BULK AT MOST 1048576: true; the input reads as it did. -/
def coarseFitsUptoRow : OpenClaim := { program := "ytcmcojmhlgknoaa", sum := "f480e184cb78c9cc8a8544eb69633f205f8fe5e4d4ed8c5c0cf07ebb2396d2d9", func := "kalends/kalendslaw26.CoarseFits", spec := "coarseFits", unfollowed := true, recurses := true, apart := false, narrowed := true }
def CoarseFitsUptoSaid : Prop := coarseFitsUptoRow.holds Try.pinned (OpenSpec.upto coarseFitsSpec)

/-- 'kalendslaw26.CoarseGrows', WHERE WHAT IT READS IS OF BULK AT MOST 1048576: true; the input reads as it did. -/
def coarseGrowsUptoRow : OpenClaim := { program := "ytcmcojmhlgknoaa", sum := "f480e184cb78c9cc8a8544eb69633f205f8fe5e4d4ed8c5c0cf07ebb2396d2d9", func := "kalends/kalendslaw26.CoarseGrows", spec := "coarseGrows", unfollowed := true, recurses := true, apart := false, narrowed := true }
def CoarseGrowsUptoSaid : Prop := coarseGrowsUptoRow.holds Try.pinned (OpenSpec.upto coarseGrowsSpec)

/-- 'kalendslaw26.CoarseMatchesReference', WHERE WHAT IT READS IS OF BULK AT MOST 1048576: true; the input reads as it did. -/
def coarseMatchesReferenceUptoRow : OpenClaim := { program := "ytcmcojmhlgknoaa", sum := "f480e184cb78c9cc8a8544eb69633f205f8fe5e4d4ed8c5c0cf07ebb2396d2d9", func := "kalends/kalendslaw26.CoarseMatchesReference", spec := "coarseMatchesReference", unfollowed := true, recurses := true, apart := false, narrowed := true }
def CoarseMatchesReferenceUptoSaid : Prop := coarseMatchesReferenceUptoRow.holds Try.pinned (OpenSpec.upto coarseMatchesReferenceSpec)

/-- 'kalendslaw26.CoarseHides', WHERE WHAT IT READS IS OF BULK AT MOST 1048576: true; the input reads as it did. -/
def coarseHidesUptoRow : OpenClaim := { program := "ytcmcojmhlgknoaa", sum := "f480e184cb78c9cc8a8544eb69633f205f8fe5e4d4ed8c5c0cf07ebb2396d2d9", func := "kalends/kalendslaw26.CoarseHides", spec := "coarseHides", unfollowed := true, recurses := true, apart := false, narrowed := true }
def CoarseHidesUptoSaid : Prop := coarseHidesUptoRow.holds Try.pinned (OpenSpec.upto coarseHidesSpec)

/-- 'kalendslaw26.CoarseGrains', WHERE WHAT IT READS IS OF BULK AT MOST 1048576: true; the input reads as it did. -/
def coarseGrainsUptoRow : OpenClaim := { program := "ytcmcojmhlgknoaa", sum := "f480e184cb78c9cc8a8544eb69633f205f8fe5e4d4ed8c5c0cf07ebb2396d2d9", func := "kalends/kalendslaw26.CoarseGrains", spec := "coarseGrains", unfollowed := true, recurses := true, apart := false, narrowed := true }
def CoarseGrainsUptoSaid : Prop := coarseGrainsUptoRow.holds Try.pinned (OpenSpec.upto coarseGrainsSpec)

/-- 'kalendslaw26.CoarseWitnesses', WHERE WHAT IT READS IS OF BULK AT MOST 1048576: true; the input reads as it did. -/
def coarseWitnessesUptoRow : OpenClaim := { program := "ytcmcojmhlgknoaa", sum := "f480e184cb78c9cc8a8544eb69633f205f8fe5e4d4ed8c5c0cf07ebb2396d2d9", func := "kalends/kalendslaw26.CoarseWitnesses", spec := "coarseWitnesses", unfollowed := true, recurses := true, apart := false, narrowed := true }
def CoarseWitnessesUptoSaid : Prop := coarseWitnessesUptoRow.holds Try.pinned (OpenSpec.upto coarseWitnessesSpec)

/-- 'kalendslaw26.CoarseRejectsInvalid', WHERE WHAT IT READS IS OF BULK AT MOST 1048576: true; the input reads as it did. -/
def coarseRejectsInvalidUptoRow : OpenClaim := { program := "ytcmcojmhlgknoaa", sum := "f480e184cb78c9cc8a8544eb69633f205f8fe5e4d4ed8c5c0cf07ebb2396d2d9", func := "kalends/kalendslaw26.CoarseRejectsInvalid", spec := "coarseRejectsInvalid", unfollowed := true, recurses := true, apart := false, narrowed := true }
def CoarseRejectsInvalidUptoSaid : Prop := coarseRejectsInvalidUptoRow.holds Try.pinned (OpenSpec.upto coarseRejectsInvalidSpec)

end Rows
end Go.Proofs.Ytcmcojmhlgknoaa
