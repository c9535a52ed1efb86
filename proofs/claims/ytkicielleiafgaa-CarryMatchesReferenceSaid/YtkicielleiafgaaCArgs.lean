/- Arguments that came in, read as plain data: slices of integers. -/
import Derived.Test.YtkicielleiafgaaArgs
namespace Go.Proofs.Ytkicielleiafgaa
open Go.ChangeShapes Go.WideShapes Go.ChangeAt Go.RowKit

theorem cells_int : Try.prog.cellsOf 3 = 1 := by kernel_rfl
section
variable {H : Type} {enc : TypeId × Value → H} {w : World} {base base' : Nat} {spare : Nat → Bool} {held : Bool}
set_option maxRecDepth 100000 in
theorem ints_of_cell {fuel : Nat} {v : Value} {x : DataW H × List MemPlace} (h : DataW.trod enc Try.prog w base spare held fuel 29 [v] = some x) : ∃ l, Ints w v l := by
  obtain ⟨a, len, cap, m, C, rfl, hl, hm, _, hc, hx⟩ := slice_cells Try.underlying29 (by rw [cells_int]; omega) h
  rw [cells_int] at hc
  obtain ⟨f, hf⟩ := Go.Deep.choose_lt (n := len) (p := fun i (y : Int) => C i = [.int .i64 y]) (fun i hi => let ⟨_, y, hy⟩ := hx i hi; let ⟨n, h1, _⟩ := DataW.trod_int Try.underlying3 hy; ⟨n, h1⟩)
  refine ⟨(List.range len).map f, ⟨a, cap, by simp, by simpa using hl, hm, fun h0 => ?_⟩⟩
  obtain ⟨b, off, ha, hb, hcell⟩ := hc (by simpa using h0)
  refine ⟨b, off, ha, hb, fun i hi j hj => ?_⟩
  have hi' : i < len := by simpa using hi
  obtain rfl : j = 0 := by omega
  rw [hcell i hi' 0 hj, hf i hi']
  simp [hi']
set_option maxRecDepth 100000 in
theorem ints_of_trod {r : Reach} {v : Value} {d : DataW H} {ps : List MemPlace} (hv : Value.okWide Try.prog w r base 29 v) (h0 : DataW.Trod enc Try.prog w base' spare held 29 v d ps) : ∃ l, Ints w v l := by
  obtain ⟨a0, n0, c0, rfl⟩ := okWide_slice Try.underlying29 hv
  obtain ⟨fuel, h⟩ := h0
  exact ints_of_cell h
end
end Go.Proofs.Ytkicielleiafgaa
