/- Arguments that came in, read as plain data: changes of a certificate; six bytes. -/
import Derived.Test.YtonmlmkemliefaaArgs
import Derived.Test.YtonmlmkemliefaaSound
namespace Go.Proofs.Ytonmlmkemliefaa
open Go.ChangeShapes Go.WideShapes Go.ChangeAt Go.RowKit

theorem cells_int : Try.prog.cellsOf 3 = 1 := by kernel_rfl
theorem cells_change : Try.prog.cellsOf 104 = 6 := by kernel_rfl
theorem cells_node : Try.prog.cellsOf 49 = 4 := by kernel_rfl
theorem cells_ints : Try.prog.cellsOf 28 = 1 := by kernel_rfl
section
variable {H : Type} {enc : TypeId × Value → H} {w : World} {base base' : Nat} {spare : Nat → Bool} {held : Bool}
set_option maxRecDepth 100000 in
theorem ints_of_cell {fuel : Nat} {v : Value} {x : DataW H × List MemPlace} (h : DataW.trod enc Try.prog w base spare held fuel 28 [v] = some x) : ∃ l, Ints w v l := by
  obtain ⟨a, len, cap, m, C, rfl, hl, hm, _, hc, hx⟩ := slice_cells Try.underlying28 (by rw [cells_int]; omega) h
  rw [cells_int] at hc
  obtain ⟨f, hf⟩ := Go.Deep.choose_lt (n := len) (p := fun i (y : Int) => C i = [.int .i64 y]) (fun i hi => let ⟨_, y, hy⟩ := hx i hi; let ⟨n, h1, _⟩ := DataW.trod_int Try.underlying3 hy; ⟨n, h1⟩)
  refine ⟨(List.range len).map f, ⟨a, cap, by simp, by simpa using hl, hm, fun h0 => ?_⟩⟩
  obtain ⟨b, off, ha, hb, hcell⟩ := hc (by simpa using h0)
  refine ⟨b, off, ha, hb, fun i hi j hj => ?_⟩
  have hi' : i < len := by simpa using hi
  obtain rfl : j = 0 := by omega
  rw [hcell i hi' 0 hj, hf i hi']
  simp [hi']
set_option maxRecDepth 100000 in
theorem ints_of_trod {r : Reach} {v : Value} {d : DataW H} {ps : List MemPlace} (hv : Value.okWide Try.prog w r base 28 v) (h0 : DataW.Trod enc Try.prog w base' spare held 28 v d ps) : ∃ l, Ints w v l := by
  obtain ⟨a0, n0, c0, rfl⟩ := okWide_slice Try.underlying28 hv
  obtain ⟨fuel, h⟩ := h0
  exact ints_of_cell h
set_option maxRecDepth 100000 in
theorem node_of_trod {fuel : Nat} {cs : List Value} {x : DataW H × List MemPlace} (h : DataW.trod enc Try.prog w base spare held fuel 49 cs = some x) : ∃ (n : NodeD) (kv : Value), Ints w kv n.kids ∧ cs = [.int .i64 n.wish, kv, .int .i64 n.clA, .int .i64 n.clB] := by
  obtain ⟨xs, n, _, _, hl, hn, hx⟩ := DataW.trod_struct Try.underlying49 h
  rw [cells_node] at hl
  have hn' : xs.length = 4 := hn
  match cs, hl with
  | [c0, c1, c2, c3], _ =>
    have h0 : DataW.trod enc Try.prog w base spare held n 3 (([c0, c1, c2, c3].drop 0).take (Try.prog.cellsOf 3)) = xs[0]? := hx 0 _ rfl
    have h1 : DataW.trod enc Try.prog w base spare held n 28 (([c0, c1, c2, c3].drop 1).take (Try.prog.cellsOf 28)) = xs[1]? := hx 1 _ rfl
    have h2 : DataW.trod enc Try.prog w base spare held n 3 (([c0, c1, c2, c3].drop 2).take (Try.prog.cellsOf 3)) = xs[2]? := hx 2 _ rfl
    have h3 : DataW.trod enc Try.prog w base spare held n 3 (([c0, c1, c2, c3].drop 3).take (Try.prog.cellsOf 3)) = xs[3]? := hx 3 _ rfl
    rw [List.getElem?_eq_getElem (by omega)] at h0 h1 h2 h3
    simp only [cells_int, cells_ints, List.drop_zero, List.take_succ_cons, List.take_zero, List.drop_succ_cons] at h0 h1 h2 h3
    obtain ⟨a, ha, _, _⟩ := DataW.trod_int Try.underlying3 h0
    obtain ⟨l, hl⟩ := ints_of_cell h1
    obtain ⟨b, hb, _, _⟩ := DataW.trod_int Try.underlying3 h2
    obtain ⟨c, hc, _, _⟩ := DataW.trod_int Try.underlying3 h3
    simp at ha hb hc
    exact ⟨⟨a, l, b, c⟩, c1, hl, by rw [ha, hb, hc]⟩
set_option maxRecDepth 100000 in
theorem change_of_trod {fuel : Nat} {cs : List Value} {x : DataW H × List MemPlace} (h : DataW.trod enc Try.prog w base spare held fuel 104 cs = some x) :
    ∃ (n : ChangeD) (kv : Value), Ints w kv n.node.kids ∧ byteB n.kind ∧ byteB n.at_ ∧ cs = [.int .u8 n.kind, .int .u8 n.at_, .int .i64 n.node.wish, kv, .int .i64 n.node.clA, .int .i64 n.node.clB] := by
  obtain ⟨xs, n, _, _, hl, hn, hx⟩ := DataW.trod_struct Try.underlying104 h
  rw [cells_change] at hl
  have hn' : xs.length = 3 := hn
  match cs, hl with
  | [c0, c1, c2, c3, c4, c5], _ =>
    have h0 : DataW.trod enc Try.prog w base spare held n 5 (([c0, c1, c2, c3, c4, c5].drop 0).take (Try.prog.cellsOf 5)) = xs[0]? := hx 0 _ rfl
    have h1 : DataW.trod enc Try.prog w base spare held n 5 (([c0, c1, c2, c3, c4, c5].drop 1).take (Try.prog.cellsOf 5)) = xs[1]? := hx 1 _ rfl
    have h2 : DataW.trod enc Try.prog w base spare held n 49 (([c0, c1, c2, c3, c4, c5].drop 2).take (Try.prog.cellsOf 49)) = xs[2]? := hx 2 _ rfl
    rw [List.getElem?_eq_getElem (by omega)] at h0 h1 h2
    simp only [cells_u8, cells_node, List.drop_zero, List.take_succ_cons, List.take_zero, List.drop_succ_cons] at h0 h1 h2
    obtain ⟨a, ha, ka⟩ := trod_u8 Try.underlying5 h0
    obtain ⟨b, hb, kb⟩ := trod_u8 Try.underlying5 h1
    obtain ⟨nd, kv, hk, hc⟩ := node_of_trod h2
    simp at ha hb hc
    obtain ⟨e2, e3, e4, e5⟩ := hc
    exact ⟨⟨a, b, nd⟩, kv, hk, ka, kb, by rw [ha, hb, e2, e3, e4, e5]⟩
set_option maxRecDepth 100000 in
theorem changes_of_trod {r : Reach} {v : Value} {d : DataW H} {ps : List MemPlace} (hv : Value.okWide Try.prog w r base 46 v) (h0 : DataW.Trod enc Try.prog w base' spare held 46 v d ps) : ∃ l, Changes w v l := by
  obtain ⟨a0, n0, c0, rfl⟩ := okWide_slice Try.underlying46 hv
  obtain ⟨fuel, h⟩ := h0
  obtain ⟨a, len, cap, m, C, e, hl, hm, _, hc, hx⟩ := slice_cells Try.underlying46 (by rw [cells_change]; omega) h
  rw [cells_change] at hc
  obtain ⟨f, hf⟩ := Go.Deep.choose_lt (n := len) (p := fun i (y : ChangeD × Value) => Ints w y.2 y.1.node.kids ∧ byteB y.1.kind ∧ byteB y.1.at_ ∧ C i = [.int .u8 y.1.kind, .int .u8 y.1.at_, .int .i64 y.1.node.wish, y.2, .int .i64 y.1.node.clA, .int .i64 y.1.node.clB]) (fun i hi => let ⟨_, y, hy⟩ := hx i hi; let ⟨n, kv, h1, h2, h3, h4⟩ := change_of_trod hy; ⟨(n, kv), h1, h2, h3, h4⟩)
  refine ⟨(List.range len).map fun i => (f i).1, fun i => (f i).2, ⟨a, cap, by simpa using e, by simpa using hl, hm, fun h0 => ?_⟩, fun i hi => ?_⟩
  · obtain ⟨b, off, ha, hb, hcell⟩ := hc (by simpa using h0)
    refine ⟨b, off, ha, hb, fun i hi j hj => ?_⟩
    have hi' : i < len := by simpa using hi
    rw [hcell i hi' j hj, (hf i hi').2.2.2]
    match j, hj with
    | 0, _ => simp [hi']
    | 1, _ => simp [hi']
    | 2, _ => simp [hi']
    | 3, _ => rfl
    | 4, _ => simp [hi']
    | 5, _ => simp [hi']
  · have hi' : i < len := by simpa using hi
    have h1 := hf i hi'
    simp only [List.getElem?_map, List.getElem?_range hi', Option.map_some, Option.getD_some]
    exact ⟨h1.1, h1.2.1, h1.2.2.1⟩
set_option maxRecDepth 100000 in
theorem six_of_trod {r : Reach} {v : Value} {d : DataW H} {ps : List MemPlace} (hv : Value.okWide Try.prog w r base 75 v) (h0 : DataW.Trod enc Try.prog w base' spare held 75 v d ps) : ∃ x, SixV w v x := by
  simp only [Value.okWide, Try.underlying75] at hv
  obtain ⟨ca, rfl, hsz, _⟩ := hv
  obtain ⟨fuel, h⟩ := h0
  obtain ⟨xs, m, _, _, hl, hn, hx⟩ := DataW.trod_array Try.underlying75 h
  have hc6 : Try.prog.cellsOf 75 = 6 := by kernel_rfl
  rw [hc6] at hl
  have hat : ∀ i, i < 6 → ∃ n, ((Value.agg ca).cells.toList.drop i).take 1 = [.int .u8 n] ∧ byteB n := by
    intro i hi
    have := hx i hi
    rw [cells_u8, Nat.mul_one, List.getElem?_eq_getElem (by omega)] at this
    exact trod_u8 Try.underlying5 this
  obtain ⟨cl⟩ := ca
  have e0 : (Value.agg ⟨cl⟩).cells.toList = cl := rfl
  rw [e0] at hat hl
  match cl, hl with
  | [c0, c1, c2, c3, c4, c5], _ =>
    obtain ⟨a, ha, ka⟩ := hat 0 (by omega)
    obtain ⟨b, hb, kb⟩ := hat 1 (by omega)
    obtain ⟨c, hc, kc⟩ := hat 2 (by omega)
    obtain ⟨d, hd, kd⟩ := hat 3 (by omega)
    obtain ⟨e, he, ke⟩ := hat 4 (by omega)
    obtain ⟨f, hf, kf⟩ := hat 5 (by omega)
    simp at ha hb hc hd he hf
    exact ⟨⟨a, b, c, d, e, f⟩, by rw [ha, hb, hc, hd, he, hf], ka, kb, kc, kd, ke, kf⟩
end
end Go.Proofs.Ytonmlmkemliefaa
