/- Arguments that came in, read as plain data: slices of bytes. -/
import Derived.Test.YtkicielleiafgaaArgs
import Derived.Test.YtkicielleiafgaaPM
namespace Go.Proofs.Ytkicielleiafgaa
open Go.ChangeShapes Go.WideShapes Go.ChangeAt Go.RowKit

section
variable {H : Type} {enc : TypeId × Value → H} {w : World} {base base' : Nat} {spare : Nat → Bool} {held : Bool}
set_option maxRecDepth 100000 in
theorem bytes_of_trod {r : Reach} {v : Value} {d : DataW H} {ps : List MemPlace} (hv : Value.okWide Try.prog w r base 23 v) (h0 : DataW.Trod enc Try.prog w base' spare held 23 v d ps) : ∃ l, Bytes w v l := by
  obtain ⟨a0, n0, c0, rfl⟩ := okWide_slice Try.underlying23 hv
  obtain ⟨fuel, h⟩ := h0
  obtain ⟨a, len, cap, m, C, e, hl, hm, _, hc, hx⟩ := slice_cells Try.underlying23 (by rw [cells_u8]; omega) h
  rw [cells_u8] at hc
  obtain ⟨f, hf⟩ := Go.Deep.choose_lt (n := len) (p := fun i (y : Int) => byteB y ∧ C i = [.int .u8 y]) (fun i hi => let ⟨_, y, hy⟩ := hx i hi; let ⟨n, h1, h2⟩ := trod_u8 Try.underlying5 hy; ⟨n, h2, h1⟩)
  refine ⟨(List.range len).map f, ⟨a, cap, by simpa using e, by simpa using hl, hm, fun h0 => ?_⟩, ?_⟩
  · obtain ⟨b, off, ha, hb, hcell⟩ := hc (by simpa using h0)
    refine ⟨b, off, ha, hb, fun i hi j hj => ?_⟩
    have hi' : i < len := by simpa using hi
    obtain rfl : j = 0 := by omega
    rw [hcell i hi' 0 hj, (hf i hi').2]
    simp [hi']
  · intro y hy
    rw [List.mem_map] at hy
    obtain ⟨i, hi, rfl⟩ := hy
    exact (hf i (List.mem_range.1 hi)).1
end
end Go.Proofs.Ytkicielleiafgaa
