/-
  No cell of these rows narrows 'for every input' (looked for: loops, veiled, ifaces, maps, wideKeys, modest, calm, conditions, laid).
  DERIVED. THE GIVEN ROWS OF THIS SEAT. 9 by the template 'for every input the law returns true; each argument reads behind the call as it read before'; 0 by the template 'total and deterministic' (their statements: YtonmlmkemliefaaTotals.lean).
  GIVEN WITH THE SEED: the statements are not yours to turn. If you find one false, say at which input.
  Laid BY PROGRAM, IN A SANDBOX (cutbox-rows.mjs): the forced cells as the released guide's own fill.sh prints them over the translation 03942504e47a2f05… (all of the seat's roots in one cut). By AI agents, Wed Nov 11 2026. No macro, syntax, notation, axiom, sorry.
-/
import Derived.Test.YtonmlmkemliefaaChecked
import GoSem.Claim
import GoSem.ClaimJoined
import GoSem.ClaimMapViews
import Derived.JoinedTies
import Derived.KernelRfl
namespace Go.Proofs.Ytonmlmkemliefaa
/- THE CELL 'sum', in the pinned program and in every row, IS THE sha256 OF THE DUMP (.gsa) THAT YtonmlmkemliefaaProg.lean LOADS. Nothing in Lean hashes anything: it is a label: what it is worth is what the hold of that sum in a sandbox is worth. -/
noncomputable def Try.pinned : Pinned := { name := "ytonmlmkemliefaa", sum := "03942504e47a2f0535aa14975aa4f6da797e364799a4d6a125423611e0158b64", checked := Try.checked }
namespace Rows
def none {H : Type} : Left H := { results := [], args := [] }

/-- 'kalendslaw33.PlanBestMatchesReference': WHATEVER THE INPUT: true; the input reads as it did. -/
def planBestMatchesReferenceSpec : ChangeSpec := { name := "planBestMatchesReference", fn := fun _ => fun
  | [d] => { results := [.lit (.bool true)], args := [d] }
  | _ => none }
def planBestMatchesReferenceRow : OpenClaim := { program := "ytonmlmkemliefaa", sum := "03942504e47a2f0535aa14975aa4f6da797e364799a4d6a125423611e0158b64", func := "kalends/kalendslaw33.PlanBestMatchesReference", spec := "planBestMatchesReference", unfollowed := true, recurses := true, apart := false }
def PlanBestMatchesReferenceSaid : Prop := planBestMatchesReferenceRow.holds Try.pinned (OpenSpec.ofChange planBestMatchesReferenceSpec)

/-- ITS FALSE NEIGHBOUR: 'it returns false'. Refute it at one input. -/
def planBestMatchesReferenceWrong : ChangeSpec := { name := "planBestMatchesReference", fn := fun _ => fun
  | [d] => { results := [.lit (.bool false)], args := [d] }
  | _ => none }
def PlanBestMatchesReferenceWrongFalsely : Prop := planBestMatchesReferenceRow.holds Try.pinned (OpenSpec.ofChange planBestMatchesReferenceWrong)

/-- 'kalendslaw33.PlanCertified': WHATEVER THE INPUT: true; the input reads as it did. -/
def planCertifiedSpec : ChangeSpec := { name := "planCertified", fn := fun _ => fun
  | [d1, d2] => { results := [.lit (.bool true)], args := [d1, d2] }
  | _ => none }
def planCertifiedRow : OpenClaim := { program := "ytonmlmkemliefaa", sum := "03942504e47a2f0535aa14975aa4f6da797e364799a4d6a125423611e0158b64", func := "kalends/kalendslaw33.PlanCertified", spec := "planCertified", unfollowed := true, recurses := true, apart := false }
def PlanCertifiedSaid : Prop := planCertifiedRow.holds Try.pinned (OpenSpec.ofChange planCertifiedSpec)

/-- ITS FALSE NEIGHBOUR: 'it returns false'. Refute it at one input. -/
def planCertifiedWrong : ChangeSpec := { name := "planCertified", fn := fun _ => fun
  | [d1, d2] => { results := [.lit (.bool false)], args := [d1, d2] }
  | _ => none }
def PlanCertifiedWrongFalsely : Prop := planCertifiedRow.holds Try.pinned (OpenSpec.ofChange planCertifiedWrong)

/-- 'kalendslaw33.PlanCheckMatchesReference': WHATEVER THE INPUT: true; the input reads as it did. -/
def planCheckMatchesReferenceSpec : ChangeSpec := { name := "planCheckMatchesReference", fn := fun _ => fun
  | [d1, d2, d3] => { results := [.lit (.bool true)], args := [d1, d2, d3] }
  | _ => none }
def planCheckMatchesReferenceRow : OpenClaim := { program := "ytonmlmkemliefaa", sum := "03942504e47a2f0535aa14975aa4f6da797e364799a4d6a125423611e0158b64", func := "kalends/kalendslaw33.PlanCheckMatchesReference", spec := "planCheckMatchesReference", unfollowed := true, recurses := true, apart := false }
def PlanCheckMatchesReferenceSaid : Prop := planCheckMatchesReferenceRow.holds Try.pinned (OpenSpec.ofChange planCheckMatchesReferenceSpec)

/-- ITS FALSE NEIGHBOUR: 'it returns false'. Refute it at one input. -/
def planCheckMatchesReferenceWrong : ChangeSpec := { name := "planCheckMatchesReference", fn := fun _ => fun
  | [d1, d2, d3] => { results := [.lit (.bool false)], args := [d1, d2, d3] }
  | _ => none }
def PlanCheckMatchesReferenceWrongFalsely : Prop := planCheckMatchesReferenceRow.holds Try.pinned (OpenSpec.ofChange planCheckMatchesReferenceWrong)

/-- 'kalendslaw33.PlanMonotone': WHATEVER THE INPUT: true; the input reads as it did. -/
def planMonotoneSpec : ChangeSpec := { name := "planMonotone", fn := fun _ => fun
  | [d1, d2, d3] => { results := [.lit (.bool true)], args := [d1, d2, d3] }
  | _ => none }
def planMonotoneRow : OpenClaim := { program := "ytonmlmkemliefaa", sum := "03942504e47a2f0535aa14975aa4f6da797e364799a4d6a125423611e0158b64", func := "kalends/kalendslaw33.PlanMonotone", spec := "planMonotone", unfollowed := true, recurses := true, apart := false }
def PlanMonotoneSaid : Prop := planMonotoneRow.holds Try.pinned (OpenSpec.ofChange planMonotoneSpec)

/-- ITS FALSE NEIGHBOUR: 'it returns false'. Refute it at one input. -/
def planMonotoneWrong : ChangeSpec := { name := "planMonotone", fn := fun _ => fun
  | [d1, d2, d3] => { results := [.lit (.bool false)], args := [d1, d2, d3] }
  | _ => none }
def PlanMonotoneWrongFalsely : Prop := planMonotoneRow.holds Try.pinned (OpenSpec.ofChange planMonotoneWrong)

/-- 'kalendslaw33.PlanWithoutClashes': WHATEVER THE INPUT: true; the input reads as it did. -/
def planWithoutClashesSpec : ChangeSpec := { name := "planWithoutClashes", fn := fun _ => fun
  | [d] => { results := [.lit (.bool true)], args := [d] }
  | _ => none }
def planWithoutClashesRow : OpenClaim := { program := "ytonmlmkemliefaa", sum := "03942504e47a2f0535aa14975aa4f6da797e364799a4d6a125423611e0158b64", func := "kalends/kalendslaw33.PlanWithoutClashes", spec := "planWithoutClashes", unfollowed := true, recurses := true, apart := false }
def PlanWithoutClashesSaid : Prop := planWithoutClashesRow.holds Try.pinned (OpenSpec.ofChange planWithoutClashesSpec)

/-- ITS FALSE NEIGHBOUR: 'it returns false'. Refute it at one input. -/
def planWithoutClashesWrong : ChangeSpec := { name := "planWithoutClashes", fn := fun _ => fun
  | [d] => { results := [.lit (.bool false)], args := [d] }
  | _ => none }
def PlanWithoutClashesWrongFalsely : Prop := planWithoutClashesRow.holds Try.pinned (OpenSpec.ofChange planWithoutClashesWrong)

/-- 'kalendslaw33.PlanMatchesReference': WHATEVER THE INPUT: true; the input reads as it did. -/
def planMatchesReferenceSpec : ChangeSpec := { name := "planMatchesReference", fn := fun _ => fun
  | [d1, d2, d3] => { results := [.lit (.bool true)], args := [d1, d2, d3] }
  | _ => none }
def planMatchesReferenceRow : OpenClaim := { program := "ytonmlmkemliefaa", sum := "03942504e47a2f0535aa14975aa4f6da797e364799a4d6a125423611e0158b64", func := "kalends/kalendslaw33.PlanMatchesReference", spec := "planMatchesReference", unfollowed := true, recurses := true, apart := false }
def PlanMatchesReferenceSaid : Prop := planMatchesReferenceRow.holds Try.pinned (OpenSpec.ofChange planMatchesReferenceSpec)

/-- ITS FALSE NEIGHBOUR: 'it returns false'. Refute it at one input. -/
def planMatchesReferenceWrong : ChangeSpec := { name := "planMatchesReference", fn := fun _ => fun
  | [d1, d2, d3] => { results := [.lit (.bool false)], args := [d1, d2, d3] }
  | _ => none }
def PlanMatchesReferenceWrongFalsely : Prop := planMatchesReferenceRow.holds Try.pinned (OpenSpec.ofChange planMatchesReferenceWrong)

/-- 'kalendslaw33.PlanLeastHarm': WHATEVER THE INPUT: true; the input reads as it did. -/
def planLeastHarmSpec : ChangeSpec := { name := "planLeastHarm", fn := fun _ => fun
  | [d1, d2] => { results := [.lit (.bool true)], args := [d1, d2] }
  | _ => none }
def planLeastHarmRow : OpenClaim := { program := "ytonmlmkemliefaa", sum := "03942504e47a2f0535aa14975aa4f6da797e364799a4d6a125423611e0158b64", func := "kalends/kalendslaw33.PlanLeastHarm", spec := "planLeastHarm", unfollowed := true, recurses := true, apart := false }
def PlanLeastHarmSaid : Prop := planLeastHarmRow.holds Try.pinned (OpenSpec.ofChange planLeastHarmSpec)

/-- ITS FALSE NEIGHBOUR: 'it returns false'. Refute it at one input. -/
def planLeastHarmWrong : ChangeSpec := { name := "planLeastHarm", fn := fun _ => fun
  | [d1, d2] => { results := [.lit (.bool false)], args := [d1, d2] }
  | _ => none }
def PlanLeastHarmWrongFalsely : Prop := planLeastHarmRow.holds Try.pinned (OpenSpec.ofChange planLeastHarmWrong)

/-- 'kalendslaw33.PlanCheckIsSound': WHATEVER THE INPUT: true; the input reads as it did. -/
def planCheckIsSoundSpec : ChangeSpec := { name := "planCheckIsSound", fn := fun _ => fun
  | [d1, d2, d3] => { results := [.lit (.bool true)], args := [d1, d2, d3] }
  | _ => none }
def planCheckIsSoundRow : OpenClaim := { program := "ytonmlmkemliefaa", sum := "03942504e47a2f0535aa14975aa4f6da797e364799a4d6a125423611e0158b64", func := "kalends/kalendslaw33.PlanCheckIsSound", spec := "planCheckIsSound", unfollowed := true, recurses := true, apart := false }
def PlanCheckIsSoundSaid : Prop := planCheckIsSoundRow.holds Try.pinned (OpenSpec.ofChange planCheckIsSoundSpec)

/-- ITS FALSE NEIGHBOUR: 'it returns false'. Refute it at one input. -/
def planCheckIsSoundWrong : ChangeSpec := { name := "planCheckIsSound", fn := fun _ => fun
  | [d1, d2, d3] => { results := [.lit (.bool false)], args := [d1, d2, d3] }
  | _ => none }
def PlanCheckIsSoundWrongFalsely : Prop := planCheckIsSoundRow.holds Try.pinned (OpenSpec.ofChange planCheckIsSoundWrong)

/-- 'kalendslaw33.PlanSymmetry': WHATEVER THE INPUT: true; the input reads as it did. -/
def planSymmetrySpec : ChangeSpec := { name := "planSymmetry", fn := fun _ => fun
  | [d1, d2, d3] => { results := [.lit (.bool true)], args := [d1, d2, d3] }
  | _ => none }
def planSymmetryRow : OpenClaim := { program := "ytonmlmkemliefaa", sum := "03942504e47a2f0535aa14975aa4f6da797e364799a4d6a125423611e0158b64", func := "kalends/kalendslaw33.PlanSymmetry", spec := "planSymmetry", unfollowed := true, recurses := true, apart := false }
def PlanSymmetrySaid : Prop := planSymmetryRow.holds Try.pinned (OpenSpec.ofChange planSymmetrySpec)

/-- ITS FALSE NEIGHBOUR: 'it returns false'. Refute it at one input. -/
def planSymmetryWrong : ChangeSpec := { name := "planSymmetry", fn := fun _ => fun
  | [d1, d2, d3] => { results := [.lit (.bool false)], args := [d1, d2, d3] }
  | _ => none }
def PlanSymmetryWrongFalsely : Prop := planSymmetryRow.holds Try.pinned (OpenSpec.ofChange planSymmetryWrong)

/- THE SECOND FORM. 'bulk': how many values and letters a reading holds, each counted each time it is reached (what is shared counts as often as it is met; a slice's spare places count too). A statement '..UptoSaid' is the law's where the arguments, and the package variables that the reading takes, are together of bulk at most 1048576: NARROWER than '..Said'. Prove '..Said' where nothing that the law and all that it calls make is longer than what came in: it says more and counts as full. Else prove '..UptoSaid'. A law counts once. -/
mutual
def uptoBulk {H : Type} : DataW H → Nat
  | .lit (.string bytes) => bytes.length + 1
  | .lit _ => 1
  | .nil => 1
  | .ptr d => uptoBulk d + 1
  | .slice elems spare => uptoBulkAll elems + uptoBulkAll spare + 1
  | .agg parts => uptoBulkAll parts + 1
  | .iface _ d => uptoBulk d + 1
  | .map entries => uptoBulkEntries entries + 1
  | .held _ => 1
def uptoBulkAll {H : Type} : List (DataW H) → Nat
  | [] => 0
  | d :: r => uptoBulk d + uptoBulkAll r
def uptoBulkEntries {H : Type} : List (Lit × DataW H) → Nat
  | [] => 0
  | x :: r => uptoBulkEntry x + uptoBulkEntries r
def uptoBulkEntry {H : Type} : Lit × DataW H → Nat
  | (.string bytes, d) => bytes.length + uptoBulk d + 1
  | (_, d) => uptoBulk d + 1
 end
def uptoSmall : (H : Type) → List (DataW H) → Bool := fun _ ds => decide (uptoBulkAll ds ≤ 1048576)
def OpenSpec.upto (s : _root_.Go.ChangeSpec) : _root_.Go.OpenSpec := { _root_.Go.OpenSpec.ofChange s with cond := some uptoSmall }

/-- 'kalendslaw33.PlanBestMatchesReference', WHERE WHAT IT READS IS OF BULK AT MOST 1048576: true; the input reads as it did. -/
def planBestMatchesReferenceUptoRow : OpenClaim := { program := "ytonmlmkemliefaa", sum := "03942504e47a2f0535aa14975aa4f6da797e364799a4d6a125423611e0158b64", func := "kalends/kalendslaw33.PlanBestMatchesReference", spec := "planBestMatchesReference", unfollowed := true, recurses := true, apart := false, narrowed := true }
def PlanBestMatchesReferenceUptoSaid : Prop := planBestMatchesReferenceUptoRow.holds Try.pinned (OpenSpec.upto planBestMatchesReferenceSpec)

/-- 'kalendslaw33.PlanCertified', WHERE WHAT IT READS IS OF BULK AT MOST 1048576: true; the input reads as it did. -/
def planCertifiedUptoRow : OpenClaim := { program := "ytonmlmkemliefaa", sum := "03942504e47a2f0535aa14975aa4f6da797e364799a4d6a125423611e0158b64", func := "kalends/kalendslaw33.PlanCertified", spec := "planCertified", unfollowed := true, recurses := true, apart := false, narrowed := true }
def PlanCertifiedUptoSaid : Prop := planCertifiedUptoRow.holds Try.pinned (OpenSpec.upto planCertifiedSpec)

/-- 'kalendslaw33.PlanCheckMatchesReference', WHERE WHAT IT READS IS OF BULK AT MOST 1048576: true; the input reads as it did. -/
def planCheckMatchesReferenceUptoRow : OpenClaim := { program := "ytonmlmkemliefaa", sum := "03942504e47a2f0535aa14975aa4f6da797e364799a4d6a125423611e0158b64", func := "kalends/kalendslaw33.PlanCheckMatchesReference", spec := "planCheckMatchesReference", unfollowed := true, recurses := true, apart := false, narrowed := true }
def PlanCheckMatchesReferenceUptoSaid : Prop := planCheckMatchesReferenceUptoRow.holds Try.pinned (OpenSpec.upto planCheckMatchesReferenceSpec)

/-- 'kalendslaw33.PlanMonotone', WHERE WHAT IT READS IS OF BULK AT MOST 1048576: true; the input reads as it did. -/
def planMonotoneUptoRow : OpenClaim := { program := "ytonmlmkemliefaa", sum := "03942504e47a2f0535aa14975aa4f6da797e364799a4d6a125423611e0158b64", func := "kalends/kalendslaw33.PlanMonotone", spec := "planMonotone", unfollowed := true, recurses := true, apart := false, narrowed := true }
def PlanMonotoneUptoSaid : Prop := planMonotoneUptoRow.holds Try.pinned (OpenSpec.upto planMonotoneSpec)

/-- 'kalendslaw33.PlanWithoutClashes', WHERE WHAT IT READS IS OF BULK AT MOST 1048576: true; the input reads as it did. -/
def planWithoutClashesUptoRow : OpenClaim := { program := "ytonmlmkemliefaa", sum := "03942504e47a2f0535aa14975aa4f6da797e364799a4d6a125423611e0158b64", func := "kalends/kalendslaw33.PlanWithoutClashes", spec := "planWithoutClashes", unfollowed := true, recurses := true, apart := false, narrowed := true }
def PlanWithoutClashesUptoSaid : Prop := planWithoutClashesUptoRow.holds Try.pinned (OpenSpec.upto planWithoutClashesSpec)

/-- 'kalendslaw33.PlanMatchesReference', WHERE WHAT IT READS IS OF BULK AT MOST 1048576: true; the input reads as it did. -/
def planMatchesReferenceUptoRow : OpenClaim := { program := "ytonmlmkemliefaa", sum := "03942504e47a2f0535aa14975aa4f6da797e364799a4d6a125423611e0158b64", func := "kalends/kalendslaw33.PlanMatchesReference", spec := "planMatchesReference", unfollowed := true, recurses := true, apart := false, narrowed := true }
def PlanMatchesReferenceUptoSaid : Prop := planMatchesReferenceUptoRow.holds Try.pinned (OpenSpec.upto planMatchesReferenceSpec)

/-- 'kalendslaw33.PlanLeastHarm', WHERE WHAT IT READS IS OF BULK AT MOST 1048576: true; the input reads as it did. -/
def planLeastHarmUptoRow : OpenClaim := { program := "ytonmlmkemliefaa", sum := "03942504e47a2f0535aa14975aa4f6da797e364799a4d6a125423611e0158b64", func := "kalends/kalendslaw33.PlanLeastHarm", spec := "planLeastHarm", unfollowed := true, recurses := true, apart := false, narrowed := true }
def PlanLeastHarmUptoSaid : Prop := planLeastHarmUptoRow.holds Try.pinned (OpenSpec.upto planLeastHarmSpec)

/-- 'kalendslaw33.PlanCheckIsSound', WHERE WHAT IT READS IS OF BULK AT MOST 1048576: true; the input reads as it did. -/
def planCheckIsSoundUptoRow : OpenClaim := { program := "ytonmlmkemliefaa", sum := "03942504e47a2f0535aa14975aa4f6da797e364799a4d6a125423611e0158b64", func := "kalends/kalendslaw33.PlanCheckIsSound", spec := "planCheckIsSound", unfollowed := true, recurses := true, apart := false, narrowed := true }
def PlanCheckIsSoundUptoSaid : Prop := planCheckIsSoundUptoRow.holds Try.pinned (OpenSpec.upto planCheckIsSoundSpec)

/-- 'kalendslaw33.PlanSymmetry', WHERE WHAT IT READS IS OF BULK AT MOST 1048576: true; the input reads as it did. -/
def planSymmetryUptoRow : OpenClaim := { program := "ytonmlmkemliefaa", sum := "03942504e47a2f0535aa14975aa4f6da797e364799a4d6a125423611e0158b64", func := "kalends/kalendslaw33.PlanSymmetry", spec := "planSymmetry", unfollowed := true, recurses := true, apart := false, narrowed := true }
def PlanSymmetryUptoSaid : Prop := planSymmetryUptoRow.holds Try.pinned (OpenSpec.upto planSymmetrySpec)

end Rows
end Go.Proofs.Ytonmlmkemliefaa
