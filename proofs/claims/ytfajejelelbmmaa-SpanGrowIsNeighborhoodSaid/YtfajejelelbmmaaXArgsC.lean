/- Arguments that came in, read as plain data: arrays of two and of three numbers. -/
import Derived.Test.YtfajejelelbmmaaXArgs
import Derived.Test.YtfajejelelbmmaaLH
namespace Go.Proofs.Ytfajejelelbmmaa
open Go.ChangeShapes Go.WideShapes Go.ChangeAt Go.RowKit

theorem cells_u32 : Try.prog.cellsOf 48 = 1 := by kernel_rfl
section
variable {H : Type} {enc : TypeId × Value → H} {w : World} {base base' : Nat} {spare : Nat → Bool} {held : Bool}
set_option maxRecDepth 100000 in
theorem two32_of_trod {r : Reach} {v : Value} {d : DataW H} {ps : List MemPlace} (hv : Value.okWide Try.prog w r base 49 v) (h0 : DataW.Trod enc Try.prog w base' spare held 49 v d ps) : ∃ x, Two32V w v x := by
  simp only [Value.okWide, Try.underlying49] at hv
  obtain ⟨ca, rfl, hsz, _⟩ := hv
  obtain ⟨fuel, h⟩ := h0
  obtain ⟨xs, m, _, _, hl, hn, hx⟩ := DataW.trod_array Try.underlying49 h
  have hc2 : Try.prog.cellsOf 49 = 2 := by kernel_rfl
  rw [hc2] at hl
  have hat : ∀ i, i < 2 → ∃ n, ((Value.agg ca).cells.toList.drop i).take 1 = [.int .u32 n] ∧ 0 ≤ n ∧ n ≤ 4294967295 := by
    intro i hi
    have := hx i hi
    rw [cells_u32, Nat.mul_one, List.getElem?_eq_getElem (by omega)] at this
    obtain ⟨n, h1, _, hw⟩ := DataW.trod_int Try.underlying48 this
    simp [Lit.wf, IntKind.min, IntKind.max, IntKind.signed, IntKind.bits] at hw
    exact ⟨n, h1, hw.1, hw.2⟩
  obtain ⟨cl⟩ := ca
  have e0 : (Value.agg ⟨cl⟩).cells.toList = cl := rfl
  rw [e0] at hat hl
  match cl, hl with
  | [c0, c1], _ =>
    obtain ⟨a, ha, ka⟩ := hat 0 (by omega)
    obtain ⟨b, hb, kb⟩ := hat 1 (by omega)
    simp at ha hb
    exact ⟨⟨a, b⟩, by rw [ha, hb], ka, kb⟩
end
end Go.Proofs.Ytfajejelelbmmaa
