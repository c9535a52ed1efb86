/- Arguments that came in, read as plain data: lists of steps; a pair of lists of integers. -/
import Derived.Test.YtkicielleiafgaaCArgs
import Derived.Test.YtkicielleiafgaaDJ
namespace Go.Proofs.Ytkicielleiafgaa
open Go.ChangeShapes Go.WideShapes Go.ChangeAt Go.RowKit

theorem cells_step : Try.prog.cellsOf 42 = 2 := by kernel_rfl
theorem cells_ints' : Try.prog.cellsOf 29 = 1 := by kernel_rfl
section
variable {H : Type} {enc : TypeId × Value → H} {w : World} {base base' : Nat} {spare : Nat → Bool} {held : Bool}
set_option maxRecDepth 100000 in
theorem step_of_trod {fuel : Nat} {cs : List Value} {x : DataW H × List MemPlace} (h : DataW.trod enc Try.prog w base spare held fuel 42 cs = some x) : ∃ s : Int × Int, cs = [.int .i64 s.1, .int .i64 s.2] := by
  obtain ⟨xs, n, _, _, hl, hn, hx⟩ := DataW.trod_struct Try.underlying42 h
  rw [cells_step] at hl
  have hn' : xs.length = 2 := hn
  match cs, hl with
  | [c0, c1], _ =>
    have h0 : DataW.trod enc Try.prog w base spare held n 3 (([c0, c1].drop 0).take (Try.prog.cellsOf 3)) = xs[0]? := hx 0 _ rfl
    have h1 : DataW.trod enc Try.prog w base spare held n 3 (([c0, c1].drop 1).take (Try.prog.cellsOf 3)) = xs[1]? := hx 1 _ rfl
    rw [List.getElem?_eq_getElem (by omega)] at h0 h1
    simp only [cells_int, List.drop_zero, List.take_succ_cons, List.take_zero, List.drop_succ_cons] at h0 h1
    obtain ⟨a, ha, _, _⟩ := DataW.trod_int Try.underlying3 h0
    obtain ⟨b, hb, _, _⟩ := DataW.trod_int Try.underlying3 h1
    simp at ha hb
    exact ⟨(a, b), by rw [ha, hb]⟩
set_option maxRecDepth 100000 in
theorem steps_of_trod {r : Reach} {v : Value} {d : DataW H} {ps : List MemPlace} (hv : Value.okWide Try.prog w r base 32 v) (h0 : DataW.Trod enc Try.prog w base' spare held 32 v d ps) : ∃ l, Spans w v l := by
  obtain ⟨a0, n0, c0, rfl⟩ := okWide_slice Try.underlying32 hv
  obtain ⟨fuel, h⟩ := h0
  obtain ⟨a, len, cap, m, C, e, hl, hm, _, hc, hx⟩ := slice_cells Try.underlying32 (by rw [cells_step]; omega) h
  rw [cells_step] at hc
  obtain ⟨f, hf⟩ := Go.Deep.choose_lt (n := len) (p := fun i (y : Int × Int) => C i = [.int .i64 y.1, .int .i64 y.2]) (fun i hi => let ⟨_, y, hy⟩ := hx i hi; step_of_trod hy)
  refine ⟨(List.range len).map f, ⟨a, cap, by simpa using e, by simpa using hl, hm, fun h0 => ?_⟩⟩
  obtain ⟨b, off, ha, hb, hcell⟩ := hc (by simpa using h0)
  refine ⟨b, off, ha, hb, fun i hi j hj => ?_⟩
  have hi' : i < len := by simpa using hi
  rw [hcell i hi' j hj, hf i hi']
  match j, hj with
  | 0, _ => simp [hi']
  | 1, _ => simp [hi']
set_option maxRecDepth 100000 in
theorem twoInts_of_trod {r : Reach} {v : Value} {d : DataW H} {ps : List MemPlace} (hv : Value.okWide Try.prog w r base 48 v) (h0 : DataW.Trod enc Try.prog w base' spare held 48 v d ps) : ∃ x, TwoInts w v x := by
  simp only [Value.okWide, Try.underlying48] at hv
  obtain ⟨ca, rfl, hsz, _⟩ := hv
  obtain ⟨fuel, h⟩ := h0
  obtain ⟨xs, m, _, _, hl, hn, hx⟩ := DataW.trod_array Try.underlying48 h
  have hc2 : Try.prog.cellsOf 48 = 2 := by kernel_rfl
  rw [hc2] at hl
  have hat : ∀ i (u : Value), i < 2 → (((Value.agg ca).cells.toList.drop i).take 1) = [u] → ∃ l, Ints w u l := by
    intro i u hi hu
    have := hx i hi
    rw [cells_ints', Nat.mul_one, List.getElem?_eq_getElem (by omega), hu] at this
    exact ints_of_cell this
  obtain ⟨cl⟩ := ca
  have e0 : (Value.agg ⟨cl⟩).cells.toList = cl := rfl
  rw [e0] at hat hl
  match cl, hl with
  | [c0, c1], _ =>
    obtain ⟨a, ha⟩ := hat 0 c0 (by omega) rfl
    obtain ⟨b, hb⟩ := hat 1 c1 (by omega) rfl
    exact ⟨(a, b), c0, c1, rfl, ha, hb⟩
end
end Go.Proofs.Ytkicielleiafgaa
