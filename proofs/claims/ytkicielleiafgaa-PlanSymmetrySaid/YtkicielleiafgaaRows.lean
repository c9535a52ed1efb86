/-
  No cell of these rows narrows 'for every input' (looked for: loops, veiled, ifaces, maps, wideKeys, modest, calm, conditions, laid).
  DERIVED. THE GIVEN ROWS OF THIS SEAT. 10 by the template 'for every input the law returns true; each argument reads behind the call as it read before'; 0 by the template 'total and deterministic' (their statements: YtkicielleiafgaaTotals.lean).
  GIVEN WITH THE SEED: the statements are not yours to turn. If you find one false, say at which input.
  Laid BY PROGRAM, IN A SANDBOX (cutbox-rows.mjs): the forced cells as the released guide's own fill.sh prints them over the translation ad77ac24fa95c2ed… (all of the seat's roots in one cut). By AI agents, Wed Nov 11 2026. No macro, syntax, notation, axiom, sorry.
-/
import Derived.Test.YtkicielleiafgaaChecked
import GoSem.Claim
import GoSem.ClaimJoined
import GoSem.ClaimMapViews
import Derived.JoinedTies
import Derived.KernelRfl
namespace Go.Proofs.Ytkicielleiafgaa
/- THE CELL 'sum', in the pinned program and in every row, IS THE sha256 OF THE DUMP (.gsa) THAT YtkicielleiafgaaProg.lean LOADS. Nothing in Lean hashes anything: it is a label: what it is worth is what the hold of that sum in a sandbox is worth. -/
noncomputable def Try.pinned : Pinned := { name := "ytkicielleiafgaa", sum := "ad77ac24fa95c2ed1d734f274da72439e9ec899c290c2e91a799aca9115f14e7", checked := Try.checked }
namespace Rows
def none {H : Type} : Left H := { results := [], args := [] }

/-- 'kalendslaw35.CarryOrderExists': WHATEVER THE INPUT: true; the input reads as it did. -/
def carryOrderExistsSpec : ChangeSpec := { name := "carryOrderExists", fn := fun _ => fun
  | [d1, d2] => { results := [.lit (.bool true)], args := [d1, d2] }
  | _ => none }
def carryOrderExistsRow : OpenClaim := { program := "ytkicielleiafgaa", sum := "ad77ac24fa95c2ed1d734f274da72439e9ec899c290c2e91a799aca9115f14e7", func := "kalends/kalendslaw35.CarryOrderExists", spec := "carryOrderExists", unfollowed := true, recurses := true, plainKeys := false, apart := false }
def CarryOrderExistsSaid : Prop := carryOrderExistsRow.holds Try.pinned (OpenSpec.ofChange carryOrderExistsSpec)

/-- ITS FALSE NEIGHBOUR: 'it returns false'. Refute it at one input. -/
def carryOrderExistsWrong : ChangeSpec := { name := "carryOrderExists", fn := fun _ => fun
  | [d1, d2] => { results := [.lit (.bool false)], args := [d1, d2] }
  | _ => none }
def CarryOrderExistsWrongFalsely : Prop := carryOrderExistsRow.holds Try.pinned (OpenSpec.ofChange carryOrderExistsWrong)

/-- 'kalendslaw35.CarryFewSteps': WHATEVER THE INPUT: true; the input reads as it did. -/
def carryFewStepsSpec : ChangeSpec := { name := "carryFewSteps", fn := fun _ => fun
  | [d1, d2] => { results := [.lit (.bool true)], args := [d1, d2] }
  | _ => none }
def carryFewStepsRow : OpenClaim := { program := "ytkicielleiafgaa", sum := "ad77ac24fa95c2ed1d734f274da72439e9ec899c290c2e91a799aca9115f14e7", func := "kalends/kalendslaw35.CarryFewSteps", spec := "carryFewSteps", unfollowed := true, recurses := true, plainKeys := false, apart := false }
def CarryFewStepsSaid : Prop := carryFewStepsRow.holds Try.pinned (OpenSpec.ofChange carryFewStepsSpec)

/-- ITS FALSE NEIGHBOUR: 'it returns false'. Refute it at one input. -/
def carryFewStepsWrong : ChangeSpec := { name := "carryFewSteps", fn := fun _ => fun
  | [d1, d2] => { results := [.lit (.bool false)], args := [d1, d2] }
  | _ => none }
def CarryFewStepsWrongFalsely : Prop := carryFewStepsRow.holds Try.pinned (OpenSpec.ofChange carryFewStepsWrong)

/-- 'kalendslaw35.CarryAllOrNothing': WHATEVER THE INPUT: true; the input reads as it did. -/
def carryAllOrNothingSpec : ChangeSpec := { name := "carryAllOrNothing", fn := fun _ => fun
  | [d1, d2, d3] => { results := [.lit (.bool true)], args := [d1, d2, d3] }
  | _ => none }
def carryAllOrNothingRow : OpenClaim := { program := "ytkicielleiafgaa", sum := "ad77ac24fa95c2ed1d734f274da72439e9ec899c290c2e91a799aca9115f14e7", func := "kalends/kalendslaw35.CarryAllOrNothing", spec := "carryAllOrNothing", unfollowed := true, recurses := true, plainKeys := false, apart := false }
def CarryAllOrNothingSaid : Prop := carryAllOrNothingRow.holds Try.pinned (OpenSpec.ofChange carryAllOrNothingSpec)

/-- ITS FALSE NEIGHBOUR: 'it returns false'. Refute it at one input. -/
def carryAllOrNothingWrong : ChangeSpec := { name := "carryAllOrNothing", fn := fun _ => fun
  | [d1, d2, d3] => { results := [.lit (.bool false)], args := [d1, d2, d3] }
  | _ => none }
def CarryAllOrNothingWrongFalsely : Prop := carryAllOrNothingRow.holds Try.pinned (OpenSpec.ofChange carryAllOrNothingWrong)

/-- 'kalendslaw35.CarryMatchesReference': WHATEVER THE INPUT: true; the input reads as it did. -/
def carryMatchesReferenceSpec : ChangeSpec := { name := "carryMatchesReference", fn := fun _ => fun
  | [d1, d2, d3] => { results := [.lit (.bool true)], args := [d1, d2, d3] }
  | _ => none }
def carryMatchesReferenceRow : OpenClaim := { program := "ytkicielleiafgaa", sum := "ad77ac24fa95c2ed1d734f274da72439e9ec899c290c2e91a799aca9115f14e7", func := "kalends/kalendslaw35.CarryMatchesReference", spec := "carryMatchesReference", unfollowed := true, recurses := true, plainKeys := false, apart := false }
def CarryMatchesReferenceSaid : Prop := carryMatchesReferenceRow.holds Try.pinned (OpenSpec.ofChange carryMatchesReferenceSpec)

/-- ITS FALSE NEIGHBOUR: 'it returns false'. Refute it at one input. -/
def carryMatchesReferenceWrong : ChangeSpec := { name := "carryMatchesReference", fn := fun _ => fun
  | [d1, d2, d3] => { results := [.lit (.bool false)], args := [d1, d2, d3] }
  | _ => none }
def CarryMatchesReferenceWrongFalsely : Prop := carryMatchesReferenceRow.holds Try.pinned (OpenSpec.ofChange carryMatchesReferenceWrong)

/-- 'kalendslaw35.CarryChecksTasks': WHATEVER THE INPUT: true; the input reads as it did. -/
def carryChecksTasksSpec : ChangeSpec := { name := "carryChecksTasks", fn := fun _ => fun
  | [d1, d2] => { results := [.lit (.bool true)], args := [d1, d2] }
  | _ => none }
def carryChecksTasksRow : OpenClaim := { program := "ytkicielleiafgaa", sum := "ad77ac24fa95c2ed1d734f274da72439e9ec899c290c2e91a799aca9115f14e7", func := "kalends/kalendslaw35.CarryChecksTasks", spec := "carryChecksTasks", unfollowed := true, recurses := true, plainKeys := false, apart := false }
def CarryChecksTasksSaid : Prop := carryChecksTasksRow.holds Try.pinned (OpenSpec.ofChange carryChecksTasksSpec)

/-- ITS FALSE NEIGHBOUR: 'it returns false'. Refute it at one input. -/
def carryChecksTasksWrong : ChangeSpec := { name := "carryChecksTasks", fn := fun _ => fun
  | [d1, d2] => { results := [.lit (.bool false)], args := [d1, d2] }
  | _ => none }
def CarryChecksTasksWrongFalsely : Prop := carryChecksTasksRow.holds Try.pinned (OpenSpec.ofChange carryChecksTasksWrong)

/-- 'kalendslaw35.CarryNoNewClash': WHATEVER THE INPUT: true; the input reads as it did. -/
def carryNoNewClashSpec : ChangeSpec := { name := "carryNoNewClash", fn := fun _ => fun
  | [d1, d2] => { results := [.lit (.bool true)], args := [d1, d2] }
  | _ => none }
def carryNoNewClashRow : OpenClaim := { program := "ytkicielleiafgaa", sum := "ad77ac24fa95c2ed1d734f274da72439e9ec899c290c2e91a799aca9115f14e7", func := "kalends/kalendslaw35.CarryNoNewClash", spec := "carryNoNewClash", unfollowed := true, recurses := true, plainKeys := false, apart := false }
def CarryNoNewClashSaid : Prop := carryNoNewClashRow.holds Try.pinned (OpenSpec.ofChange carryNoNewClashSpec)

/-- ITS FALSE NEIGHBOUR: 'it returns false'. Refute it at one input. -/
def carryNoNewClashWrong : ChangeSpec := { name := "carryNoNewClash", fn := fun _ => fun
  | [d1, d2] => { results := [.lit (.bool false)], args := [d1, d2] }
  | _ => none }
def CarryNoNewClashWrongFalsely : Prop := carryNoNewClashRow.holds Try.pinned (OpenSpec.ofChange carryNoNewClashWrong)

/-- 'kalendslaw35.CarryCheckIsSound': WHATEVER THE INPUT: true; the input reads as it did. -/
def carryCheckIsSoundSpec : ChangeSpec := { name := "carryCheckIsSound", fn := fun _ => fun
  | [d1, d2, d3] => { results := [.lit (.bool true)], args := [d1, d2, d3] }
  | _ => none }
def carryCheckIsSoundRow : OpenClaim := { program := "ytkicielleiafgaa", sum := "ad77ac24fa95c2ed1d734f274da72439e9ec899c290c2e91a799aca9115f14e7", func := "kalends/kalendslaw35.CarryCheckIsSound", spec := "carryCheckIsSound", unfollowed := true, recurses := true, plainKeys := false, apart := false }
def CarryCheckIsSoundSaid : Prop := carryCheckIsSoundRow.holds Try.pinned (OpenSpec.ofChange carryCheckIsSoundSpec)

/-- ITS FALSE NEIGHBOUR: 'it returns false'. Refute it at one input. -/
def carryCheckIsSoundWrong : ChangeSpec := { name := "carryCheckIsSound", fn := fun _ => fun
  | [d1, d2, d3] => { results := [.lit (.bool false)], args := [d1, d2, d3] }
  | _ => none }
def CarryCheckIsSoundWrongFalsely : Prop := carryCheckIsSoundRow.holds Try.pinned (OpenSpec.ofChange carryCheckIsSoundWrong)

/-- 'kalendslaw35.CarryBestPlans': WHATEVER THE INPUT: true; the input reads as it did. -/
def carryBestPlansSpec : ChangeSpec := { name := "carryBestPlans", fn := fun _ => fun
  | [d] => { results := [.lit (.bool true)], args := [d] }
  | _ => none }
def carryBestPlansRow : OpenClaim := { program := "ytkicielleiafgaa", sum := "ad77ac24fa95c2ed1d734f274da72439e9ec899c290c2e91a799aca9115f14e7", func := "kalends/kalendslaw35.CarryBestPlans", spec := "carryBestPlans", unfollowed := true, recurses := true, plainKeys := false, apart := false }
def CarryBestPlansSaid : Prop := carryBestPlansRow.holds Try.pinned (OpenSpec.ofChange carryBestPlansSpec)

/-- ITS FALSE NEIGHBOUR: 'it returns false'. Refute it at one input. -/
def carryBestPlansWrong : ChangeSpec := { name := "carryBestPlans", fn := fun _ => fun
  | [d] => { results := [.lit (.bool false)], args := [d] }
  | _ => none }
def CarryBestPlansWrongFalsely : Prop := carryBestPlansRow.holds Try.pinned (OpenSpec.ofChange carryBestPlansWrong)

/-- 'kalendslaw12.SpanTranslation': WHATEVER THE INPUT: true; the input reads as it did. -/
def spanTranslationSpec : ChangeSpec := { name := "spanTranslation", fn := fun _ => fun
  | [d1, d2, d3] => { results := [.lit (.bool true)], args := [d1, d2, d3] }
  | _ => none }
def spanTranslationRow : OpenClaim := { program := "ytkicielleiafgaa", sum := "ad77ac24fa95c2ed1d734f274da72439e9ec899c290c2e91a799aca9115f14e7", func := "kalends/kalendslaw12.SpanTranslation", spec := "spanTranslation", unfollowed := true, recurses := true, plainKeys := false, apart := false }
def SpanTranslationSaid : Prop := spanTranslationRow.holds Try.pinned (OpenSpec.ofChange spanTranslationSpec)

/-- ITS FALSE NEIGHBOUR: 'it returns false'. Refute it at one input. -/
def spanTranslationWrong : ChangeSpec := { name := "spanTranslation", fn := fun _ => fun
  | [d1, d2, d3] => { results := [.lit (.bool false)], args := [d1, d2, d3] }
  | _ => none }
def SpanTranslationWrongFalsely : Prop := spanTranslationRow.holds Try.pinned (OpenSpec.ofChange spanTranslationWrong)

/-- 'kalendslaw33.PlanSymmetry': WHATEVER THE INPUT: true; the input reads as it did. -/
def planSymmetrySpec : ChangeSpec := { name := "planSymmetry", fn := fun _ => fun
  | [d1, d2, d3] => { results := [.lit (.bool true)], args := [d1, d2, d3] }
  | _ => none }
def planSymmetryRow : OpenClaim := { program := "ytkicielleiafgaa", sum := "ad77ac24fa95c2ed1d734f274da72439e9ec899c290c2e91a799aca9115f14e7", func := "kalends/kalendslaw33.PlanSymmetry", spec := "planSymmetry", unfollowed := true, recurses := true, plainKeys := false, apart := false }
def PlanSymmetrySaid : Prop := planSymmetryRow.holds Try.pinned (OpenSpec.ofChange planSymmetrySpec)

/-- ITS FALSE NEIGHBOUR: 'it returns false'. Refute it at one input. -/
def planSymmetryWrong : ChangeSpec := { name := "planSymmetry", fn := fun _ => fun
  | [d1, d2, d3] => { results := [.lit (.bool false)], args := [d1, d2, d3] }
  | _ => none }
def PlanSymmetryWrongFalsely : Prop := planSymmetryRow.holds Try.pinned (OpenSpec.ofChange planSymmetryWrong)

/- THE SECOND FORM. 'bulk': how many values and letters a reading holds, each counted each time it is reached (what is shared counts as often as it is met; a slice's spare places count too). A statement '..UptoSaid' is the law's where the arguments, and the package variables that the reading takes, are together of bulk at most 1048576: NARROWER than '..Said'. Prove '..Said' where nothing that the law and all that it calls make is longer than what came in: it says more and counts as full. Else prove '..UptoSaid'. A law counts once. -/
mutual
def uptoBulk {H : Type} : DataW H → Nat
  | .lit (.string bytes) => bytes.length + 1
  | .lit _ => 1
  | .nil => 1
  | .ptr d => uptoBulk d + 1
  | .slice elems spare => uptoBulkAll elems + uptoBulkAll spare + 1
  | .agg parts => uptoBulkAll parts + 1
  | .iface _ d => uptoBulk d + 1
  | .map entries => uptoBulkEntries entries + 1
  | .held _ => 1
def uptoBulkAll {H : Type} : List (DataW H) → Nat
  | [] => 0
  | d :: r => uptoBulk d + uptoBulkAll r
def uptoBulkEntries {H : Type} : List (Lit × DataW H) → Nat
  | [] => 0
  | x :: r => uptoBulkEntry x + uptoBulkEntries r
def uptoBulkEntry {H : Type} : Lit × DataW H → Nat
  | (.string bytes, d) => bytes.length + uptoBulk d + 1
  | (_, d) => uptoBulk d + 1
 end
def uptoSmall : (H : Type) → List (DataW H) → Bool := fun _ ds => decide (uptoBulkAll ds ≤ 1048576)
def OpenSpec.upto (s : _root_.Go.ChangeSpec) : _root_.Go.OpenSpec := { _root_.Go.OpenSpec.ofChange s with cond := some uptoSmall }

/-- 'kalendslaw35.CarryOrderExists', WHERE WHAT IT READS IS OF BULK AT MOST 1048576: true; the input reads as it did. -/
def carryOrderExistsUptoRow : OpenClaim := { program := "ytkicielleiafgaa", sum := "ad77ac24fa95c2ed1d734f274da72439e9ec899c290c2e91a799aca9115f14e7", func := "kalends/kalendslaw35.CarryOrderExists", spec := "carryOrderExists", unfollowed := true, recurses := true, plainKeys := false, apart := false, narrowed := true }
def CarryOrderExistsUptoSaid : Prop := carryOrderExistsUptoRow.holds Try.pinned (OpenSpec.upto carryOrderExistsSpec)

/-- 'kalendslaw35.CarryFewSteps', WHERE WHAT IT READS IS OF BULK AT MOST 1048576: true; the input reads as it did. -/
def carryFewStepsUptoRow : OpenClaim := { program := "ytkicielleiafgaa", sum := "ad77ac24fa95c2ed1d734f274da72439e9ec899c290c2e91a799aca9115f14e7", func := "kalends/kalendslaw35.CarryFewSteps", spec := "carryFewSteps", unfollowed := true, recurses := true, plainKeys := false, apart := false, narrowed := true }
def CarryFewStepsUptoSaid : Prop := carryFewStepsUptoRow.holds Try.pinned (OpenSpec.upto carryFewStepsSpec)

/-- 'kalendslaw35.CarryAllOrNothing', WHERE WHAT IT READS IS OF BULK AT MOST 1048576: true; the input reads as it did. -/
def carryAllOrNothingUptoRow : OpenClaim := { program := "ytkicielleiafgaa", sum := "ad77ac24fa95c2ed1d734f274da72439e9ec899c290c2e91a799aca9115f14e7", func := "kalends/kalendslaw35.CarryAllOrNothing", spec := "carryAllOrNothing", unfollowed := true, recurses := true, plainKeys := false, apart := false, narrowed := true }
def CarryAllOrNothingUptoSaid : Prop := carryAllOrNothingUptoRow.holds Try.pinned (OpenSpec.upto carryAllOrNothingSpec)

/-- 'kalendslaw35.CarryMatchesReference', WHERE WHAT IT READS IS OF BULK AT MOST 1048576: true; the input reads as it did. -/
def carryMatchesReferenceUptoRow : OpenClaim := { program := "ytkicielleiafgaa", sum := "ad77ac24fa95c2ed1d734f274da72439e9ec899c290c2e91a799aca9115f14e7", func := "kalends/kalendslaw35.CarryMatchesReference", spec := "carryMatchesReference", unfollowed := true, recurses := true, plainKeys := false, apart := false, narrowed := true }
def CarryMatchesReferenceUptoSaid : Prop := carryMatchesReferenceUptoRow.holds Try.pinned (OpenSpec.upto carryMatchesReferenceSpec)

/-- 'kalendslaw35.CarryChecksTasks', WHERE WHAT IT READS IS OF BULK AT MOST 1048576: true; the input reads as it did. -/
def carryChecksTasksUptoRow : OpenClaim := { program := "ytkicielleiafgaa", sum := "ad77ac24fa95c2ed1d734f274da72439e9ec899c290c2e91a799aca9115f14e7", func := "kalends/kalendslaw35.CarryChecksTasks", spec := "carryChecksTasks", unfollowed := true, recurses := true, plainKeys := false, apart := false, narrowed := true }
def CarryChecksTasksUptoSaid : Prop := carryChecksTasksUptoRow.holds Try.pinned (OpenSpec.upto carryChecksTasksSpec)

/-- 'kalendslaw35.CarryNoNewClash', WHERE WHAT IT READS IS OF BULK AT MOST 1048576: true; the input reads as it did. -/
def carryNoNewClashUptoRow : OpenClaim := { program := "ytkicielleiafgaa", sum := "ad77ac24fa95c2ed1d734f274da72439e9ec899c290c2e91a799aca9115f14e7", func := "kalends/kalendslaw35.CarryNoNewClash", spec := "carryNoNewClash", unfollowed := true, recurses := true, plainKeys := false, apart := false, narrowed := true }
def CarryNoNewClashUptoSaid : Prop := carryNoNewClashUptoRow.holds Try.pinned (OpenSpec.upto carryNoNewClashSpec)

/-- 'kalendslaw35.CarryCheckIsSound', WHERE WHAT IT READS IS OF BULK AT MOST 1048576: true; the input reads as it did. -/
def carryCheckIsSoundUptoRow : OpenClaim := { program := "ytkicielleiafgaa", sum := "ad77ac24fa95c2ed1d734f274da72439e9ec899c290c2e91a799aca9115f14e7", func := "kalends/kalendslaw35.CarryCheckIsSound", spec := "carryCheckIsSound", unfollowed := true, recurses := true, plainKeys := false, apart := false, narrowed := true }
def CarryCheckIsSoundUptoSaid : Prop := carryCheckIsSoundUptoRow.holds Try.pinned (OpenSpec.upto carryCheckIsSoundSpec)

/-- 'kalendslaw35.CarryBestPlans', WHERE WHAT IT READS IS OF BULK AT MOST 1048576: true; the input reads as it did. -/
def carryBestPlansUptoRow : OpenClaim := { program := "ytkicielleiafgaa", sum := "ad77ac24fa95c2ed1d734f274da72439e9ec899c290c2e91a799aca9115f14e7", func := "kalends/kalendslaw35.CarryBestPlans", spec := "carryBestPlans", unfollowed := true, recurses := true, plainKeys := false, apart := false, narrowed := true }
def CarryBestPlansUptoSaid : Prop := carryBestPlansUptoRow.holds Try.pinned (OpenSpec.upto carryBestPlansSpec)

/-- 'kalendslaw12.SpanTranslation', WHERE WHAT IT READS IS OF BULK AT MOST 1048576: true; the input reads as it did. -/
def spanTranslationUptoRow : OpenClaim := { program := "ytkicielleiafgaa", sum := "ad77ac24fa95c2ed1d734f274da72439e9ec899c290c2e91a799aca9115f14e7", func := "kalends/kalendslaw12.SpanTranslation", spec := "spanTranslation", unfollowed := true, recurses := true, plainKeys := false, apart := false, narrowed := true }
def SpanTranslationUptoSaid : Prop := spanTranslationUptoRow.holds Try.pinned (OpenSpec.upto spanTranslationSpec)

/-- 'kalendslaw33.PlanSymmetry', WHERE WHAT IT READS IS OF BULK AT MOST 1048576: true; the input reads as it did. -/
def planSymmetryUptoRow : OpenClaim := { program := "ytkicielleiafgaa", sum := "ad77ac24fa95c2ed1d734f274da72439e9ec899c290c2e91a799aca9115f14e7", func := "kalends/kalendslaw33.PlanSymmetry", spec := "planSymmetry", unfollowed := true, recurses := true, plainKeys := false, apart := false, narrowed := true }
def PlanSymmetryUptoSaid : Prop := planSymmetryUptoRow.holds Try.pinned (OpenSpec.upto planSymmetrySpec)

end Rows
end Go.Proofs.Ytkicielleiafgaa
