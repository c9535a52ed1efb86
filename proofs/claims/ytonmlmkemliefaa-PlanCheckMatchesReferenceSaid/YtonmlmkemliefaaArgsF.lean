/- Arguments that came in, read as plain data: a certificate. -/
import Derived.Test.YtonmlmkemliefaaArgsC
namespace Go.Proofs.Ytonmlmkemliefaa
open Go.ChangeShapes Go.WideShapes Go.ChangeAt Go.RowKit

section
variable {H : Type} {enc : TypeId × Value → H} {w : World} {base base' : Nat} {spare : Nat → Bool} {held : Bool}
set_option maxRecDepth 100000 in
theorem nodes_of_trod {r : Reach} {v : Value} {d : DataW H} {ps : List MemPlace} (hv : Value.okWide Try.prog w r base 31 v) (h0 : DataW.Trod enc Try.prog w base' spare held 31 v d ps) : ∃ l, Nodes w v l := by
  obtain ⟨a0, n0, c0, rfl⟩ := okWide_slice Try.underlying31 hv
  obtain ⟨fuel, h⟩ := h0
  obtain ⟨a, len, cap, m, C, e, hl, hm, _, hc, hx⟩ := slice_cells Try.underlying31 (by rw [cells_node]; omega) h
  rw [cells_node] at hc
  obtain ⟨f, hf⟩ := Go.Deep.choose_lt (n := len) (p := fun i (y : NodeD × Value) => Ints w y.2 y.1.kids ∧ C i = [.int .i64 y.1.wish, y.2, .int .i64 y.1.clA, .int .i64 y.1.clB]) (fun i hi => let ⟨_, y, hy⟩ := hx i hi; let ⟨n, kv, h1, h2⟩ := node_of_trod hy; ⟨(n, kv), h1, h2⟩)
  refine ⟨(List.range len).map fun i => (f i).1, fun i => (f i).2, ⟨a, cap, by simpa using e, by simpa using hl, hm, fun h0 => ?_⟩, fun i hi => ?_⟩
  · obtain ⟨b, off, ha, hb, hcell⟩ := hc (by simpa using h0)
    refine ⟨b, off, ha, hb, fun i hi j hj => ?_⟩
    have hi' : i < len := by simpa using hi
    rw [hcell i hi' j hj, (hf i hi').2]
    match j, hj with
    | 0, _ => simp [hi']
    | 1, _ => rfl
    | 2, _ => simp [hi']
    | 3, _ => simp [hi']
  · have hi' : i < len := by simpa using hi
    have h1 := hf i hi'
    simp only [List.getElem?_map, List.getElem?_range hi', Option.map_some, Option.getD_some]
    exact h1.1
end
end Go.Proofs.Ytonmlmkemliefaa
