/- Arguments that came in, read as plain data: a task, four integers. -/
import Derived.Test.YtonmlmkemliefaaArgsD
import Derived.Test.YtonmlmkemliefaaRN
namespace Go.Proofs.Ytonmlmkemliefaa
open Go.ChangeShapes Go.WideShapes Go.ChangeAt Go.RowKit

section
variable {H : Type} {enc : TypeId × Value → H} {w : World} {base base' : Nat} {spare : Nat → Bool} {held : Bool}
set_option maxRecDepth 100000 in
theorem taskV_of_trod {r : Reach} {v : Value} {d : DataW H} {ps : List MemPlace} (hv : Value.okWide Try.prog w r base 26 v) (h0 : DataW.Trod enc Try.prog w base' spare held 26 v d ps) : ∃ x, TaskV w v x := by
  obtain ⟨wv, t, h1, h2⟩ := task_of_trod hv h0
  exact ⟨t, wv, h1, h2⟩
set_option maxRecDepth 100000 in
theorem four_of_trod {r : Reach} {v : Value} {d : DataW H} {ps : List MemPlace} (hv : Value.okWide Try.prog w r base 61 v) (h0 : DataW.Trod enc Try.prog w base' spare held 61 v d ps) : ∃ x, FourV w v x := by
  simp only [Value.okWide, Try.underlying61] at hv
  obtain ⟨ca, rfl, hsz, _⟩ := hv
  obtain ⟨fuel, h⟩ := h0
  obtain ⟨xs, m, _, _, hl, hn, hx⟩ := DataW.trod_array Try.underlying61 h
  have hc4 : Try.prog.cellsOf 61 = 4 := by kernel_rfl
  rw [hc4] at hl
  have hat : ∀ i, i < 4 → ∃ n, ((Value.agg ca).cells.toList.drop i).take 1 = [.int .i64 n] := by
    intro i hi
    have := hx i hi
    rw [cells_int, Nat.mul_one, List.getElem?_eq_getElem (by omega)] at this
    obtain ⟨n, h1, _⟩ := DataW.trod_int Try.underlying3 this
    exact ⟨n, h1⟩
  obtain ⟨cl⟩ := ca
  have e0 : (Value.agg ⟨cl⟩).cells.toList = cl := rfl
  rw [e0] at hat hl
  match cl, hl with
  | [c0, c1, c2, c3], _ =>
    obtain ⟨a, ha⟩ := hat 0 (by omega)
    obtain ⟨b, hb⟩ := hat 1 (by omega)
    obtain ⟨c, hc⟩ := hat 2 (by omega)
    obtain ⟨d, hd⟩ := hat 3 (by omega)
    simp at ha hb hc hd
    exact ⟨⟨a, b, c, d⟩, by rw [ha, hb, hc, hd]; rfl⟩
end
end Go.Proofs.Ytonmlmkemliefaa
