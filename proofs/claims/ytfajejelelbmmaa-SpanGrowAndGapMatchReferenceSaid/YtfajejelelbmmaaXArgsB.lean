/- Arguments that came in, read as plain data: a span by value; arrays of three and of two numbers. -/
import Derived.Test.YtfajejelelbmmaaXArgs
import Derived.Test.YtfajejelelbmmaaLD
namespace Go.Proofs.Ytfajejelelbmmaa
open Go.ChangeShapes Go.WideShapes Go.ChangeAt Go.RowKit

section
variable {H : Type} {enc : TypeId × Value → H} {w : World} {base base' : Nat} {spare : Nat → Bool} {held : Bool}
set_option maxRecDepth 100000 in
theorem spanV_of_trod {r : Reach} {v : Value} {d : DataW H} {ps : List MemPlace} (hv : Value.okWide Try.prog w r base 25 v) (h0 : DataW.Trod enc Try.prog w base' spare held 25 v d ps) : ∃ s, SpanV w v s := by
  simp only [Value.okWide, Try.underlying25] at hv
  obtain ⟨ca, rfl, _⟩ := hv
  obtain ⟨fuel, h⟩ := h0
  obtain ⟨s, hs⟩ := span_of_trod h
  refine ⟨s, ?_⟩
  obtain ⟨cl⟩ := ca
  have e0 : (Value.agg ⟨cl⟩).cells.toList = cl := rfl
  rw [e0] at hs
  subst hs
  rfl
end
end Go.Proofs.Ytfajejelelbmmaa
