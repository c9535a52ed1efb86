/- Arguments that came in, read as plain data: a task, for the law CarryChecksTasks. -/
import Derived.Test.YtkicielleiafgaaCArgsD
import Derived.Test.YtkicielleiafgaaCY
namespace Go.Proofs.Ytkicielleiafgaa
open Go.ChangeShapes Go.WideShapes Go.ChangeAt Go.RowKit

section
variable {H : Type} {enc : TypeId × Value → H} {w : World} {base base' : Nat} {spare : Nat → Bool} {held : Bool}
set_option maxRecDepth 100000 in
theorem taskV_of_trod {r : Reach} {v : Value} {d : DataW H} {ps : List MemPlace} (hv : Value.okWide Try.prog w r base 27 v) (h0 : DataW.Trod enc Try.prog w base' spare held 27 v d ps) : ∃ x, TaskV w v x := by
  obtain ⟨wv, t, h1, h2⟩ := task_of_trod hv h0
  exact ⟨t, wv, h1, h2⟩
end
end Go.Proofs.Ytkicielleiafgaa
