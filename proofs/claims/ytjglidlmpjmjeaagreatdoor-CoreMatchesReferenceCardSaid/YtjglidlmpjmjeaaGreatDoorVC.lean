/- Arguments that came in: integers, tasks, a task and how large its meetings' numbers may be (CArgs, CArgsD and VC in one). -/
import Derived.Test.YtjglidlmpjmjeaaGreatDoorVAR
/- Arguments that came in, read as plain data: slices of integers. -/
namespace Go.Proofs.YtjglidlmpjmjeaaGreatDoor
open Go.ChangeShapes Go.WideShapes Go.ChangeAt Go.RowKit

theorem cells_int : Tryz.prog.cellsOf 3 = 1 := by kernel_rfl
section
variable {H : Type} {enc : TypeId × Value → H} {w : World} {base base' : Nat} {spare : Nat → Bool} {held : Bool}
set_option maxRecDepth 100000 in
theorem ints_of_cell {fuel : Nat} {v : Value} {x : DataW H × List MemPlace} (h : DataW.trod enc Tryz.prog w base spare held fuel 23 [v] = some x) : ∃ l, Ints w v l := by
 obtain ⟨a, len, cap, m, C, rfl, hl, hm, _, hc, hx⟩ := slice_cells Tryz.underlying23 (by rw [cells_int]; omega) h
 rw [cells_int] at hc
 obtain ⟨f, hf⟩ := Go.Deep.choose_lt (n := len) (p := fun i (y : Int) => C i = [.int .i64 y]) (fun i hi => let ⟨_, y, hy⟩ := hx i hi; let ⟨n, h1, _⟩ := DataW.trod_int Tryz.underlying3 hy; ⟨n, h1⟩)
 refine ⟨(List.range len).map f, ⟨a, cap, by simp, by simpa using hl, hm, fun h0 => ?_⟩⟩
 obtain ⟨b, off, ha, hb, hcell⟩ := hc (by simpa using h0)
 refine ⟨b, off, ha, hb, fun i hi j hj => ?_⟩
 have hi' : i < len := by simpa using hi
 obtain rfl : j = 0 := by omega
 rw [hcell i hi' 0 hj, hf i hi']
 simp [hi']
set_option maxRecDepth 100000 in
theorem ints_of_trod {r : Reach} {v : Value} {d : DataW H} {ps : List MemPlace} (hv : Value.okWide Tryz.prog w r base 23 v) (h0 : DataW.Trod enc Tryz.prog w base' spare held 23 v d ps) : ∃ l, Ints w v l := by
 obtain ⟨a0, n0, c0, rfl⟩ := okWide_slice Tryz.underlying23 hv
 obtain ⟨fuel, h⟩ := h0
 exact ints_of_cell h
end
end Go.Proofs.YtjglidlmpjmjeaaGreatDoor

/- Arguments that came in, read as plain data: spans, options, wishes, tasks. -/
namespace Go.Proofs.YtjglidlmpjmjeaaGreatDoor
open Go.ChangeShapes Go.WideShapes Go.ChangeAt Go.RowKit

theorem cells_ints : Tryz.prog.cellsOf 23 = 1 := by kernel_rfl
theorem cells_span : Tryz.prog.cellsOf 84 = 2 := by kernel_rfl
theorem cells_option : Tryz.prog.cellsOf 55 = 3 := by kernel_rfl
theorem cells_wish : Tryz.prog.cellsOf 52 = 3 := by kernel_rfl
theorem cells_spans : Tryz.prog.cellsOf 53 = 1 := by kernel_rfl
theorem cells_opts : Tryz.prog.cellsOf 50 = 1 := by kernel_rfl
theorem cells_wishes : Tryz.prog.cellsOf 25 = 1 := by kernel_rfl
section
variable {H : Type} {enc : TypeId × Value → H} {w : World} {base base' : Nat} {spare : Nat → Bool} {held : Bool}
set_option maxRecDepth 100000 in
theorem span_of_trod {fuel : Nat} {cs : List Value} {x : DataW H × List MemPlace} (h : DataW.trod enc Tryz.prog w base spare held fuel 84 cs = some x) : ∃ s : Int × Int, cs = [.int .i64 s.1, .int .i64 s.2] := by
 obtain ⟨xs, n, _, _, hl, hn, hx⟩ := DataW.trod_struct Tryz.underlying84 h
 rw [cells_span] at hl
 have hn' : xs.length = 2 := hn
 match cs, hl with
 | [c0, c1], _ =>
  have h0 : DataW.trod enc Tryz.prog w base spare held n 3 (([c0, c1].drop 0).take (Tryz.prog.cellsOf 3)) = xs[0]? := hx 0 _ rfl
  have h1 : DataW.trod enc Tryz.prog w base spare held n 3 (([c0, c1].drop 1).take (Tryz.prog.cellsOf 3)) = xs[1]? := hx 1 _ rfl
  rw [List.getElem?_eq_getElem (by omega)] at h0 h1
  simp only [cells_int, List.drop_zero, List.take_succ_cons, List.take_zero, List.drop_succ_cons] at h0 h1
  obtain ⟨a, ha, _, _⟩ := DataW.trod_int Tryz.underlying3 h0
  obtain ⟨b, hb, _, _⟩ := DataW.trod_int Tryz.underlying3 h1
  simp at ha hb
  exact ⟨(a, b), by rw [ha, hb]⟩
set_option maxRecDepth 100000 in
theorem spans_of_cell {fuel : Nat} {v : Value} {x : DataW H × List MemPlace} (h : DataW.trod enc Tryz.prog w base spare held fuel 53 [v] = some x) : ∃ l, Spans w v l := by
 obtain ⟨a, len, cap, m, C, rfl, hl, hm, _, hc, hx⟩ := slice_cells Tryz.underlying53 (by rw [cells_span]; omega) h
 rw [cells_span] at hc
 obtain ⟨f, hf⟩ := Go.Deep.choose_lt (n := len) (p := fun i (y : Int × Int) => C i = [.int .i64 y.1, .int .i64 y.2]) (fun i hi => let ⟨_, y, hy⟩ := hx i hi; span_of_trod hy)
 refine ⟨(List.range len).map f, ⟨a, cap, by simp, by simpa using hl, hm, fun h0 => ?_⟩⟩
 obtain ⟨b, off, ha, hb, hcell⟩ := hc (by simpa using h0)
 refine ⟨b, off, ha, hb, fun i hi j hj => ?_⟩
 have hi' : i < len := by simpa using hi
 rw [hcell i hi' j hj, hf i hi']
 match j, hj with
 | 0, _ => simp [hi']
 | 1, _ => simp [hi']
set_option maxRecDepth 100000 in
theorem option_of_trod {fuel : Nat} {cs : List Value} {x : DataW H × List MemPlace} (h : DataW.trod enc Tryz.prog w base spare held fuel 55 cs = some x) : ∃ (o : OptD) (sv : Value), Spans w sv o.spans ∧ cs = [.int .i64 o.harm, .int .i64 o.room, sv] := by
 obtain ⟨xs, n, _, _, hl, hn, hx⟩ := DataW.trod_struct Tryz.underlying55 h
 rw [cells_option] at hl
 have hn' : xs.length = 3 := hn
 match cs, hl with
 | [c0, c1, c2], _ =>
  have h0 : DataW.trod enc Tryz.prog w base spare held n 3 (([c0, c1, c2].drop 0).take (Tryz.prog.cellsOf 3)) = xs[0]? := hx 0 _ rfl
  have h1 : DataW.trod enc Tryz.prog w base spare held n 3 (([c0, c1, c2].drop 1).take (Tryz.prog.cellsOf 3)) = xs[1]? := hx 1 _ rfl
  have h2 : DataW.trod enc Tryz.prog w base spare held n 53 (([c0, c1, c2].drop 2).take (Tryz.prog.cellsOf 53)) = xs[2]? := hx 2 _ rfl
  rw [List.getElem?_eq_getElem (by omega)] at h0 h1 h2
  simp only [cells_int, cells_spans, List.drop_zero, List.take_succ_cons, List.take_zero, List.drop_succ_cons] at h0 h1 h2
  obtain ⟨a, ha, _, _⟩ := DataW.trod_int Tryz.underlying3 h0
  obtain ⟨b, hb, _, _⟩ := DataW.trod_int Tryz.underlying3 h1
  obtain ⟨l, hl⟩ := spans_of_cell h2
  simp at ha hb
  exact ⟨⟨a, b, l⟩, c2, hl, by rw [ha, hb]⟩
set_option maxRecDepth 100000 in
theorem opts_of_cell {fuel : Nat} {v : Value} {x : DataW H × List MemPlace} (h : DataW.trod enc Tryz.prog w base spare held fuel 50 [v] = some x) : ∃ l, Opts w v l := by
 obtain ⟨a, len, cap, m, C, rfl, hl, hm, _, hc, hx⟩ := slice_cells Tryz.underlying50 (by rw [cells_option]; omega) h
 rw [cells_option] at hc
 obtain ⟨f, hf⟩ := Go.Deep.choose_lt (n := len) (p := fun i (y : OptD × Value) => Spans w y.2 y.1.spans ∧ C i = [.int .i64 y.1.harm, .int .i64 y.1.room, y.2]) (fun i hi => let ⟨_, y, hy⟩ := hx i hi; let ⟨o, sv, h1, h2⟩ := option_of_trod hy; ⟨(o, sv), h1, h2⟩)
 refine ⟨(List.range len).map fun i => (f i).1, fun i => (f i).2, ⟨a, cap, by simp, by simpa using hl, hm, fun h0 => ?_⟩, fun i hi => ?_⟩
 ·obtain ⟨b, off, ha, hb, hcell⟩ := hc (by simpa using h0)
  refine ⟨b, off, ha, hb, fun i hi j hj => ?_⟩
  have hi' : i < len := by simpa using hi
  rw [hcell i hi' j hj, (hf i hi').2]
  match j, hj with
  | 0, _ => simp [hi']
  | 1, _ => simp [hi']
  | 2, _ => rfl
 ·have hi' : i < len := by simpa using hi
  simp only [List.getElem?_map, List.getElem?_range hi', Option.map_some, Option.getD_some]
  exact (hf i hi').1
set_option maxRecDepth 100000 in
theorem wish_of_trod {fuel : Nat} {cs : List Value} {x : DataW H × List MemPlace} (h : DataW.trod enc Tryz.prog w base spare held fuel 52 cs = some x) : ∃ (y : WishD) (pv ov : Value), (Ints w pv y.people ∧ Opts w ov y.opts) ∧ cs = [.int .i64 y.meeting, pv, ov] := by
 obtain ⟨xs, n, _, _, hl, hn, hx⟩ := DataW.trod_struct Tryz.underlying52 h
 rw [cells_wish] at hl
 have hn' : xs.length = 3 := hn
 match cs, hl with
 | [c0, c1, c2], _ =>
  have h0 : DataW.trod enc Tryz.prog w base spare held n 3 (([c0, c1, c2].drop 0).take (Tryz.prog.cellsOf 3)) = xs[0]? := hx 0 _ rfl
  have h1 : DataW.trod enc Tryz.prog w base spare held n 23 (([c0, c1, c2].drop 1).take (Tryz.prog.cellsOf 23)) = xs[1]? := hx 1 _ rfl
  have h2 : DataW.trod enc Tryz.prog w base spare held n 50 (([c0, c1, c2].drop 2).take (Tryz.prog.cellsOf 50)) = xs[2]? := hx 2 _ rfl
  rw [List.getElem?_eq_getElem (by omega)] at h0 h1 h2
  simp only [cells_int, cells_ints, cells_opts, List.drop_zero, List.take_succ_cons, List.take_zero, List.drop_succ_cons] at h0 h1 h2
  obtain ⟨a, ha, _, _⟩ := DataW.trod_int Tryz.underlying3 h0
  obtain ⟨p, hp⟩ := ints_of_cell h1
  obtain ⟨l, hl⟩ := opts_of_cell h2
  simp at ha
  exact ⟨⟨a, p, l⟩, c1, c2, ⟨hp, hl⟩, by rw [ha]⟩
set_option maxRecDepth 100000 in
theorem wishes_of_cell {fuel : Nat} {v : Value} {x : DataW H × List MemPlace} (h : DataW.trod enc Tryz.prog w base spare held fuel 25 [v] = some x) : ∃ l, Wishes w v l := by
 obtain ⟨a, len, cap, m, C, rfl, hl, hm, _, hc, hx⟩ := slice_cells Tryz.underlying25 (by rw [cells_wish]; omega) h
 rw [cells_wish] at hc
 obtain ⟨f, hf⟩ := Go.Deep.choose_lt (n := len) (p := fun i (y : WishD × Value × Value) => (Ints w y.2.1 y.1.people ∧ Opts w y.2.2 y.1.opts) ∧ C i = [.int .i64 y.1.meeting, y.2.1, y.2.2]) (fun i hi => let ⟨_, y, hy⟩ := hx i hi; let ⟨o, pv, ov, h1, h2⟩ := wish_of_trod hy; ⟨(o, pv, ov), h1, h2⟩)
 refine ⟨(List.range len).map fun i => (f i).1, fun i => (f i).2.1, fun i => (f i).2.2, ⟨a, cap, by simp, by simpa using hl, hm, fun h0 => ?_⟩, fun i hi => ?_⟩
 ·obtain ⟨b, off, ha, hb, hcell⟩ := hc (by simpa using h0)
  refine ⟨b, off, ha, hb, fun i hi j hj => ?_⟩
  have hi' : i < len := by simpa using hi
  rw [hcell i hi' j hj, (hf i hi').2]
  match j, hj with
  | 0, _ => simp [hi']
  | 1, _ => rfl
  | 2, _ => rfl
 ·have hi' : i < len := by simpa using hi
  simp only [List.getElem?_map, List.getElem?_range hi', Option.map_some, Option.getD_some]
  exact (hf i hi').1
set_option maxRecDepth 100000 in
theorem task_of_trod {r : Reach} {v : Value} {d : DataW H} {ps : List MemPlace} (hv : Value.okWide Tryz.prog w r base 27 v) (h0 : DataW.Trod enc Tryz.prog w base' spare held 27 v d ps) : ∃ (wv : Value) (t : List WishD), v = .agg #[wv] ∧ Wishes w wv t := by
 simp only [Value.okWide, Tryz.underlying27] at hv
 obtain ⟨ca, rfl, hsz, _⟩ := hv
 obtain ⟨fuel, h⟩ := h0
 obtain ⟨xs, n, _, _, hl, hn, hx⟩ := DataW.trod_struct Tryz.underlying27 h
 have hc1 : Tryz.prog.cellsOf 27 = 1 := by kernel_rfl
 rw [hc1] at hl
 have hn' : xs.length = 1 := hn
 obtain ⟨cl⟩ := ca
 have e0 : (Value.agg ⟨cl⟩).cells.toList = cl := rfl
 rw [e0] at hx hl
 match cl, hl with
 | [c0], _ =>
  have h0 : DataW.trod enc Tryz.prog w base' spare held n 25 (([c0].drop 0).take (Tryz.prog.cellsOf 25)) = xs[0]? := hx 0 _ rfl
  rw [List.getElem?_eq_getElem (by omega)] at h0
  simp only [cells_wishes, List.drop_zero, List.take_succ_cons, List.take_zero] at h0
  obtain ⟨l, hl⟩ := wishes_of_cell h0
  exact ⟨c0, l, rfl, hl⟩
end
end Go.Proofs.YtjglidlmpjmjeaaGreatDoor

/- Arguments that came in: a task and how large its meetings' numbers may be (turned from ArgsD). -/
namespace Go.Proofs.YtjglidlmpjmjeaaGreatDoor
open Go.ChangeShapes Go.WideShapes Go.ChangeAt Go.RowKit

section
variable {H : Type} {enc : TypeId × Value → H} {w : World} {base base' : Nat} {spare : Nat → Bool} {held : Bool}
set_option maxRecDepth 100000 in
theorem wishB_of_trod {fuel : Nat} {cs : List Value} {x : DataW H × List MemPlace} (h : DataW.trod enc Tryz.prog w base spare held fuel 52 cs = some x) : ∃ (y : WishD) (pv ov : Value), (Ints w pv y.people ∧ Opts w ov y.opts) ∧ y.meeting ≤ 9223372036854775807 ∧ cs = [.int .i64 y.meeting, pv, ov] := by
 obtain ⟨xs, n, _, _, hl, hn, hx⟩ := DataW.trod_struct Tryz.underlying52 h
 rw [cells_wish] at hl
 have hn' : xs.length = 3 := hn
 match cs, hl with
 | [c0, c1, c2], _ =>
  have h0 : DataW.trod enc Tryz.prog w base spare held n 3 (([c0, c1, c2].drop 0).take (Tryz.prog.cellsOf 3)) = xs[0]? := hx 0 _ rfl
  have h1 : DataW.trod enc Tryz.prog w base spare held n 23 (([c0, c1, c2].drop 1).take (Tryz.prog.cellsOf 23)) = xs[1]? := hx 1 _ rfl
  have h2 : DataW.trod enc Tryz.prog w base spare held n 50 (([c0, c1, c2].drop 2).take (Tryz.prog.cellsOf 50)) = xs[2]? := hx 2 _ rfl
  rw [List.getElem?_eq_getElem (by omega)] at h0 h1 h2
  simp only [cells_int, cells_ints, cells_opts, List.drop_zero, List.take_succ_cons, List.take_zero, List.drop_succ_cons] at h0 h1 h2
  obtain ⟨a, ha, _, hw⟩ := DataW.trod_int Tryz.underlying3 h0
  simp [Lit.wf, IntKind.min, IntKind.max, IntKind.signed, IntKind.bits] at hw
  obtain ⟨p, hp⟩ := ints_of_cell h1
  obtain ⟨l, hl⟩ := opts_of_cell h2
  simp at ha
  exact ⟨⟨a, p, l⟩, c1, c2, ⟨hp, hl⟩, by show a ≤ _; omega, by rw [ha]⟩
set_option maxRecDepth 100000 in
theorem wishesB_of_cell {fuel : Nat} {v : Value} {x : DataW H × List MemPlace} (h : DataW.trod enc Tryz.prog w base spare held fuel 25 [v] = some x) : ∃ l, Wishes w v l ∧ ∀ x ∈ l, x.meeting ≤ 9223372036854775807 := by
 obtain ⟨a, len, cap, m, C, rfl, hl, hm, _, hc, hx⟩ := slice_cells Tryz.underlying25 (by rw [cells_wish]; omega) h
 rw [cells_wish] at hc
 obtain ⟨f, hf⟩ := Go.Deep.choose_lt (n := len) (p := fun i (y : WishD × Value × Value) => ((Ints w y.2.1 y.1.people ∧ Opts w y.2.2 y.1.opts) ∧ y.1.meeting ≤ 9223372036854775807) ∧ C i = [.int .i64 y.1.meeting, y.2.1, y.2.2]) (fun i hi => let ⟨_, y, hy⟩ := hx i hi; let ⟨o, pv, ov, h1, h2, h3⟩ := wishB_of_trod hy; ⟨(o, pv, ov), ⟨h1, h2⟩, h3⟩)
 refine ⟨(List.range len).map fun i => (f i).1, ⟨fun i => (f i).2.1, fun i => (f i).2.2, ⟨a, cap, by simp, by simpa using hl, hm, fun h0 => ?_⟩, fun i hi => ?_⟩, fun x hx => ?_⟩
 ·obtain ⟨b, off, ha, hb, hcell⟩ := hc (by simpa using h0)
  refine ⟨b, off, ha, hb, fun i hi j hj => ?_⟩
  have hi' : i < len := by simpa using hi
  rw [hcell i hi' j hj, (hf i hi').2]
  match j, hj with
  | 0, _ => simp [hi']
  | 1, _ => rfl
  | 2, _ => rfl
 ·have hi' : i < len := by simpa using hi
  simp only [List.getElem?_map, List.getElem?_range hi', Option.map_some, Option.getD_some]
  exact (hf i hi').1.1
 ·obtain ⟨i, hi, rfl⟩ := List.mem_map.1 hx
  exact (hf i (List.mem_range.1 hi)).1.2
set_option maxRecDepth 100000 in
theorem taskB_of_trod0 {r : Reach} {v : Value} {d : DataW H} {ps : List MemPlace} (hv : Value.okWide Tryz.prog w r base 27 v) (h0 : DataW.Trod enc Tryz.prog w base' spare held 27 v d ps) : ∃ (wv : Value) (t : List WishD), v = .agg #[wv] ∧ Wishes w wv t ∧ ∀ x ∈ t, x.meeting ≤ 9223372036854775807 := by
 simp only [Value.okWide, Tryz.underlying27] at hv
 obtain ⟨ca, rfl, hsz, _⟩ := hv
 obtain ⟨fuel, h⟩ := h0
 obtain ⟨xs, n, _, _, hl, hn, hx⟩ := DataW.trod_struct Tryz.underlying27 h
 have hc1 : Tryz.prog.cellsOf 27 = 1 := by kernel_rfl
 rw [hc1] at hl
 have hn' : xs.length = 1 := hn
 obtain ⟨cl⟩ := ca
 have e0 : (Value.agg ⟨cl⟩).cells.toList = cl := rfl
 rw [e0] at hx hl
 match cl, hl with
 | [c0], _ =>
  have h0 : DataW.trod enc Tryz.prog w base' spare held n 25 (([c0].drop 0).take (Tryz.prog.cellsOf 25)) = xs[0]? := hx 0 _ rfl
  rw [List.getElem?_eq_getElem (by omega)] at h0
  simp only [cells_wishes, List.drop_zero, List.take_succ_cons, List.take_zero] at h0
  obtain ⟨l, hl⟩ := wishesB_of_cell h0
  exact ⟨c0, l, rfl, hl⟩
def TaskB (w : World) (v : Value) (t : List WishD) : Prop := ∃ wv, v = .agg #[wv] ∧ Wishes w wv t ∧ ∀ x ∈ t, x.meeting ≤ 9223372036854775807
set_option maxRecDepth 100000 in
theorem taskB_of_trod {r : Reach} {v : Value} {d : DataW H} {ps : List MemPlace} (hv : Value.okWide Tryz.prog w r base 27 v) (h0 : DataW.Trod enc Tryz.prog w base' spare held 27 v d ps) : ∃ x, TaskB w v x := by
 obtain ⟨wv, t, h1, h2, h3⟩ := taskB_of_trod0 hv h0
 exact ⟨t, wv, h1, h2, h3⟩
end
end Go.Proofs.YtjglidlmpjmjeaaGreatDoor
