/- Arguments that came in, read as plain data: lists of pairs of numbers of 32 bits. -/
import Derived.Test.YtfajejelelbmmaaXArgs
import Derived.Test.YtfajejelelbmmaaZE
namespace Go.Proofs.Ytfajejelelbmmaa
open Go.ChangeShapes Go.WideShapes Go.ChangeAt Go.RowKit

theorem cells_i32 : Try.prog.cellsOf 21 = 1 := by kernel_rfl
theorem cells_pair : Try.prog.cellsOf 43 = 2 := by kernel_rfl
section
variable {H : Type} {enc : TypeId × Value → H} {w : World} {base base' : Nat} {spare : Nat → Bool} {held : Bool}
set_option maxRecDepth 100000 in
theorem pair_of_trod {fuel : Nat} {cs : List Value} {x : DataW H × List MemPlace} (h : DataW.trod enc Try.prog w base spare held fuel 43 cs = some x) : ∃ s : Int × Int, cs = [.int .i32 s.1, .int .i32 s.2] ∧ pair32 s := by
  obtain ⟨xs, m, _, _, hl, hn, hx⟩ := DataW.trod_array Try.underlying43 h
  rw [cells_pair] at hl
  have hat : ∀ i, i < 2 → ∃ n, (cs.drop i).take 1 = [.int .i32 n] ∧ -2147483648 ≤ n ∧ n ≤ 2147483647 := by
    intro i hi
    have := hx i hi
    rw [cells_i32, Nat.mul_one, List.getElem?_eq_getElem (by omega)] at this
    obtain ⟨n, h1, _, hw⟩ := DataW.trod_int Try.underlying21 this
    simp [Lit.wf, IntKind.min, IntKind.max, IntKind.signed, IntKind.bits] at hw
    exact ⟨n, h1, hw.1, hw.2⟩
  match cs, hl with
  | [c0, c1], _ =>
    obtain ⟨a, ha, ka⟩ := hat 0 (by omega)
    obtain ⟨b, hb, kb⟩ := hat 1 (by omega)
    simp at ha hb
    exact ⟨(a, b), by rw [ha, hb], ka, kb⟩
set_option maxRecDepth 100000 in
theorem pairs_of_trod {r : Reach} {v : Value} {d : DataW H} {ps : List MemPlace} (hv : Value.okWide Try.prog w r base 42 v) (h0 : DataW.Trod enc Try.prog w base' spare held 42 v d ps) : ∃ l, Pairs w v l := by
  obtain ⟨a0, n0, c0, rfl⟩ := okWide_slice Try.underlying42 hv
  obtain ⟨fuel, h⟩ := h0
  obtain ⟨a, len, cap, m, C, e, hl, hm, _, hc, hx⟩ := slice_cells Try.underlying42 (by rw [cells_pair]; omega) h
  rw [cells_pair] at hc
  obtain ⟨f, hf⟩ := Go.Deep.choose_lt (n := len) (p := fun i (y : Int × Int) => C i = [.int .i32 y.1, .int .i32 y.2] ∧ pair32 y) (fun i hi => let ⟨_, y, hy⟩ := hx i hi; pair_of_trod hy)
  refine ⟨(List.range len).map f, ⟨a, cap, by rw [e]; simp, by simpa using hl, hm, fun h0 => ?_⟩, fun s hs => ?_⟩
  · obtain ⟨b, off, ha, hb, hcell⟩ := hc (by simpa using h0)
    refine ⟨b, off, ha, hb, fun i hi j hj => ?_⟩
    have hi' : i < len := by simpa using hi
    rw [hcell i hi' j hj, (hf i hi').1]
    match j, hj with
    | 0, _ => simp [hi']
    | 1, _ => simp [hi']
  · obtain ⟨i, hi, rfl⟩ := List.mem_map.1 hs
    exact (hf i (List.mem_range.1 hi)).2
end
end Go.Proofs.Ytfajejelelbmmaa
