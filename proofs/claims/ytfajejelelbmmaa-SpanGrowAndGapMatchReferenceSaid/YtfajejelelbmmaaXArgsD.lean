/- Arguments that came in, read as plain data: arrays of three numbers. -/
import Derived.Test.YtfajejelelbmmaaXArgs
import Derived.Test.YtfajejelelbmmaaLK
namespace Go.Proofs.Ytfajejelelbmmaa
open Go.ChangeShapes Go.WideShapes Go.ChangeAt Go.RowKit

section
variable {H : Type} {enc : TypeId × Value → H} {w : World} {base base' : Nat} {spare : Nat → Bool} {held : Bool}
set_option maxRecDepth 100000 in
theorem three_of_trod {r : Reach} {v : Value} {d : DataW H} {ps : List MemPlace} (hv : Value.okWide Try.prog w r base 23 v) (h0 : DataW.Trod enc Try.prog w base' spare held 23 v d ps) : ∃ x, ThreeV w v x := by
  simp only [Value.okWide, Try.underlying23] at hv
  obtain ⟨ca, rfl, hsz, _⟩ := hv
  obtain ⟨fuel, h⟩ := h0
  obtain ⟨xs, m, _, _, hl, hn, hx⟩ := DataW.trod_array Try.underlying23 h
  have hc3 : Try.prog.cellsOf 23 = 3 := by kernel_rfl
  rw [hc3] at hl
  have hat : ∀ i, i < 3 → ∃ n, ((Value.agg ca).cells.toList.drop i).take 1 = [.int .i64 n] := by
    intro i hi
    have := hx i hi
    rw [cells_int, Nat.mul_one, List.getElem?_eq_getElem (by omega)] at this
    obtain ⟨n, h1, _⟩ := DataW.trod_int Try.underlying3 this
    exact ⟨n, h1⟩
  obtain ⟨cl⟩ := ca
  have e0 : (Value.agg ⟨cl⟩).cells.toList = cl := rfl
  rw [e0] at hat hl
  match cl, hl with
  | [c0, c1, c2], _ =>
    obtain ⟨a, ha⟩ := hat 0 (by omega)
    obtain ⟨b, hb⟩ := hat 1 (by omega)
    obtain ⟨c, hc⟩ := hat 2 (by omega)
    simp at ha hb hc
    exact ⟨⟨a, b, c⟩, by rw [ha, hb, hc]; rfl⟩
end
end Go.Proofs.Ytfajejelelbmmaa
