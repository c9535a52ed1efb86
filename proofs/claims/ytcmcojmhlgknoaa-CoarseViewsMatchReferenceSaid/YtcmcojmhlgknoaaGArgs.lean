/- Arguments that came in, read as plain data: lists of three numbers of 16 bits; a question; lists of marks; integers; three bytes. -/
import Derived.Test.YtcmcojmhlgknoaaXArgs
import Derived.Test.YtcmcojmhlgknoaaGN
namespace Go.Proofs.Ytcmcojmhlgknoaa
open Go.ChangeShapes Go.WideShapes Go.ChangeAt Go.RowKit

theorem cells_u16 : Try.prog.cellsOf 69 = 1 := by kernel_rfl
theorem cells_u8 : Try.prog.cellsOf 5 = 1 := by kernel_rfl
theorem cells_tri16 : Try.prog.cellsOf 70 = 3 := by kernel_rfl
theorem cells_two8 : Try.prog.cellsOf 23 = 2 := by kernel_rfl
theorem cells_ask : Try.prog.cellsOf 25 = 4 := by kernel_rfl
theorem cells_mark : Try.prog.cellsOf 47 = 3 := by kernel_rfl
/-- three bytes by value -/
def Tri8V (_ : World) (v : Value) (x : Int × Int × Int) : Prop := v = .agg #[.int .u8 x.1, .int .u8 x.2.1, .int .u8 x.2.2] ∧ (0 ≤ x.1 ∧ x.1 ≤ 255) ∧ (0 ≤ x.2.1 ∧ x.2.1 ≤ 255) ∧ 0 ≤ x.2.2 ∧ x.2.2 ≤ 255
section
variable {H : Type} {enc : TypeId × Value → H} {w : World} {base base' : Nat} {spare : Nat → Bool} {held : Bool}
set_option maxRecDepth 100000 in
theorem one16_of_trod {fuel : Nat} {cs : List Value} {x : DataW H × List MemPlace} (h : DataW.trod enc Try.prog w base spare held fuel 70 cs = some x) : ∃ s : T16, cs = [.int .u16 s.1, .int .u16 s.2.1, .int .u16 s.2.2] ∧ t16Ok s := by
  obtain ⟨xs, m, _, _, hl, hn, hx⟩ := DataW.trod_array Try.underlying70 h
  rw [cells_tri16] at hl
  have hat : ∀ i, i < 3 → ∃ n, (0 ≤ n ∧ n ≤ 65535) ∧ (cs.drop i).take 1 = [.int .u16 n] := by
    intro i hi
    have := hx i hi
    rw [cells_u16, Nat.mul_one, List.getElem?_eq_getElem (by omega)] at this
    obtain ⟨n, h1, _, hw⟩ := DataW.trod_int Try.underlying69 this
    simp [Lit.wf, IntKind.min, IntKind.max, IntKind.signed, IntKind.bits] at hw
    exact ⟨n, hw, h1⟩
  match cs, hl with
  | [c0, c1, c2], _ =>
    obtain ⟨a, ka, ha⟩ := hat 0 (by omega)
    obtain ⟨b, kb, hb⟩ := hat 1 (by omega)
    obtain ⟨c, kc, hc⟩ := hat 2 (by omega)
    simp at ha hb hc
    exact ⟨(a, b, c), by rw [ha, hb, hc], ka, kb, kc⟩
set_option maxRecDepth 100000 in
theorem tri16_of_trod {r : Reach} {v : Value} {d : DataW H} {ps : List MemPlace} (hv : Value.okWide Try.prog w r base 43 v) (h0 : DataW.Trod enc Try.prog w base' spare held 43 v d ps) : ∃ l, Tri16 w v l := by
  obtain ⟨a0, n0, c0, rfl⟩ := okWide_slice Try.underlying43 hv
  obtain ⟨fuel, h⟩ := h0
  obtain ⟨a, len, cap, m, C, e, hl, hm, _, hc, hx⟩ := slice_cells Try.underlying43 (by rw [cells_tri16]; omega) h
  rw [cells_tri16] at hc
  obtain ⟨f, hf⟩ := Go.Deep.choose_lt (n := len) (p := fun i (y : T16) => C i = [.int .u16 y.1, .int .u16 y.2.1, .int .u16 y.2.2] ∧ t16Ok y) (fun i hi => let ⟨_, y, hy⟩ := hx i hi; one16_of_trod hy)
  refine ⟨(List.range len).map f, ⟨a, cap, by rw [e]; simp, by simpa using hl, hm, fun h0 => ?_⟩, fun s hs => ?_⟩
  · obtain ⟨b, off, ha, hb, hcell⟩ := hc (by simpa using h0)
    refine ⟨b, off, ha, hb, fun i hi j hj => ?_⟩
    have hi' : i < len := by simpa using hi
    rw [hcell i hi' j hj, (hf i hi').1]
    match j, hj with
    | 0, _ => simp [hi']
    | 1, _ => simp [hi']
    | 2, _ => simp [hi']
  · obtain ⟨i, hi, rfl⟩ := List.mem_map.1 hs
    exact (hf i (List.mem_range.1 hi)).2
set_option maxRecDepth 100000 in
theorem two8_of_trod {fuel : Nat} {cs : List Value} {x : DataW H × List MemPlace} (h : DataW.trod enc Try.prog w base spare held fuel 23 cs = some x) : ∃ a b : Int, cs = [.int .u8 a, .int .u8 b] ∧ (0 ≤ a ∧ a ≤ 255) ∧ 0 ≤ b ∧ b ≤ 255 := by
  obtain ⟨xs, m, _, _, hl, hn, hx⟩ := DataW.trod_array Try.underlying23 h
  rw [cells_two8] at hl
  have hat : ∀ i, i < 2 → ∃ n, (0 ≤ n ∧ n ≤ 255) ∧ (cs.drop i).take 1 = [.int .u8 n] := by
    intro i hi
    have := hx i hi
    rw [cells_u8, Nat.mul_one, List.getElem?_eq_getElem (by omega)] at this
    obtain ⟨n, h1, _, hw⟩ := DataW.trod_int Try.underlying5 this
    simp [Lit.wf, IntKind.min, IntKind.max, IntKind.signed, IntKind.bits] at hw
    exact ⟨n, hw, h1⟩
  match cs, hl with
  | [c0, c1], _ =>
    obtain ⟨a, ka, ha⟩ := hat 0 (by omega)
    obtain ⟨b, kb, hb⟩ := hat 1 (by omega)
    simp at ha hb
    exact ⟨a, b, by rw [ha, hb], ka, kb⟩
set_option maxRecDepth 100000 in
theorem askV_of_trod {r : Reach} {v : Value} {d : DataW H} {ps : List MemPlace} (hv : Value.okWide Try.prog w r base 25 v) (h0 : DataW.Trod enc Try.prog w base' spare held 25 v d ps) : ∃ x, AskV w v x := by
  simp only [Value.okWide, Try.underlying25] at hv
  obtain ⟨ca, rfl, _⟩ := hv
  obtain ⟨fuel, h⟩ := h0
  obtain ⟨xs, n, _, _, hl, hn, hx⟩ := DataW.trod_struct Try.underlying25 h
  rw [cells_ask] at hl
  have hn' : xs.length = 3 := hn
  obtain ⟨cl⟩ := ca
  have e0 : (Value.agg ⟨cl⟩).cells.toList = cl := rfl
  rw [e0] at hl
  match cl, hl with
  | [c0, c1, c2, c3], _ =>
    have h0 : DataW.trod enc Try.prog w base' spare held n 3 (([c0, c1, c2, c3].drop 0).take (Try.prog.cellsOf 3)) = xs[0]? := hx 0 _ rfl
    have h1 : DataW.trod enc Try.prog w base' spare held n 3 (([c0, c1, c2, c3].drop 1).take (Try.prog.cellsOf 3)) = xs[1]? := hx 1 _ rfl
    have h2 : DataW.trod enc Try.prog w base' spare held n 23 (([c0, c1, c2, c3].drop 2).take (Try.prog.cellsOf 23)) = xs[2]? := hx 2 _ rfl
    rw [List.getElem?_eq_getElem (by omega)] at h0 h1 h2
    simp only [cells_int, cells_two8, List.drop_zero, List.take_succ_cons, List.take_zero, List.drop_succ_cons] at h0 h1 h2
    obtain ⟨g, hg, _, _⟩ := DataW.trod_int Try.underlying3 h0
    obtain ⟨to, ht, _, _⟩ := DataW.trod_int Try.underlying3 h1
    obtain ⟨a, b, hab, ka, kb⟩ := two8_of_trod h2
    simp at hg ht hab
    exact ⟨⟨g, to, a, b⟩, by rw [hg, ht, hab.1, hab.2], ka, kb⟩
set_option maxRecDepth 100000 in
theorem tri8V_of_trod {r : Reach} {v : Value} {d : DataW H} {ps : List MemPlace} (hv : Value.okWide Try.prog w r base 57 v) (h0 : DataW.Trod enc Try.prog w base' spare held 57 v d ps) : ∃ x, Tri8V w v x := by
  simp only [Value.okWide, Try.underlying57] at hv
  obtain ⟨ca, rfl, hsz, _⟩ := hv
  obtain ⟨fuel, h⟩ := h0
  obtain ⟨xs, m, _, _, hl, hn, hx⟩ := DataW.trod_array Try.underlying57 h
  have hc3 : Try.prog.cellsOf 57 = 3 := by kernel_rfl
  rw [hc3] at hl
  have hat : ∀ i, i < 3 → ∃ n, (0 ≤ n ∧ n ≤ 255) ∧ ((Value.agg ca).cells.toList.drop i).take 1 = [.int .u8 n] := by
    intro i hi
    have := hx i hi
    rw [cells_u8, Nat.mul_one, List.getElem?_eq_getElem (by omega)] at this
    obtain ⟨n, h1, _, hw⟩ := DataW.trod_int Try.underlying5 this
    simp [Lit.wf, IntKind.min, IntKind.max, IntKind.signed, IntKind.bits] at hw
    exact ⟨n, hw, h1⟩
  obtain ⟨cl⟩ := ca
  have e0 : (Value.agg ⟨cl⟩).cells.toList = cl := rfl
  rw [e0] at hat hl
  match cl, hl with
  | [c0, c1, c2], _ =>
    obtain ⟨a, ka, ha⟩ := hat 0 (by omega)
    obtain ⟨b, kb, hb⟩ := hat 1 (by omega)
    obtain ⟨c, kc, hc⟩ := hat 2 (by omega)
    simp at ha hb hc
    exact ⟨(a, b, c), by rw [ha, hb, hc], ka, kb, kc⟩
set_option maxRecDepth 100000 in
theorem mark_of_trod {fuel : Nat} {cs : List Value} {x : DataW H × List MemPlace} (h : DataW.trod enc Try.prog w base spare held fuel 47 cs = some x) : ∃ m : MarkD, cs = [.int .i64 m.f, .int .i64 m.t, .int .i64 m.k] := by
  obtain ⟨xs, n, _, _, hl, hn, hx⟩ := DataW.trod_struct Try.underlying47 h
  rw [cells_mark] at hl
  have hn' : xs.length = 2 := hn
  match cs, hl with
  | [c0, c1, c2], _ =>
    have h0 : DataW.trod enc Try.prog w base spare held n 28 (([c0, c1, c2].drop 0).take (Try.prog.cellsOf 28)) = xs[0]? := hx 0 _ rfl
    have h1 : DataW.trod enc Try.prog w base spare held n 3 (([c0, c1, c2].drop 2).take (Try.prog.cellsOf 3)) = xs[1]? := hx 1 _ rfl
    rw [List.getElem?_eq_getElem (by omega)] at h0 h1
    simp only [cells_int, cells_span, List.drop_zero, List.take_succ_cons, List.take_zero, List.drop_succ_cons] at h0 h1
    obtain ⟨s, hs⟩ := span_of_trod h0
    obtain ⟨k, hk, _, _⟩ := DataW.trod_int Try.underlying3 h1
    simp at hs hk
    exact ⟨⟨s.1, s.2, k⟩, by rw [hs.1, hs.2, hk]⟩
set_option maxRecDepth 100000 in
theorem marks_of_trod {r : Reach} {v : Value} {d : DataW H} {ps : List MemPlace} (hv : Value.okWide Try.prog w r base 37 v) (h0 : DataW.Trod enc Try.prog w base' spare held 37 v d ps) : ∃ l, Marks w v l := by
  obtain ⟨a0, n0, c0, rfl⟩ := okWide_slice Try.underlying37 hv
  obtain ⟨fuel, h⟩ := h0
  obtain ⟨a, len, cap, m, C, e, hl, hm, _, hc, hx⟩ := slice_cells Try.underlying37 (by rw [cells_mark]; omega) h
  rw [cells_mark] at hc
  obtain ⟨f, hf⟩ := Go.Deep.choose_lt (n := len) (p := fun i (y : MarkD) => C i = [.int .i64 y.f, .int .i64 y.t, .int .i64 y.k]) (fun i hi => let ⟨_, y, hy⟩ := hx i hi; mark_of_trod hy)
  refine ⟨(List.range len).map f, ⟨a, cap, by rw [e]; simp, by simpa using hl, hm, fun h0 => ?_⟩⟩
  obtain ⟨b, off, ha, hb, hcell⟩ := hc (by simpa using h0)
  refine ⟨b, off, ha, hb, fun i hi j hj => ?_⟩
  have hi' : i < len := by simpa using hi
  rw [hcell i hi' j hj, hf i hi']
  match j, hj with
  | 0, _ => simp [hi', markCell]
  | 1, _ => simp [hi', markCell]
  | 2, _ => simp [hi', markCell]
set_option maxRecDepth 100000 in
theorem ints_of_trod {r : Reach} {v : Value} {d : DataW H} {ps : List MemPlace} (hv : Value.okWide Try.prog w r base 22 v) (h0 : DataW.Trod enc Try.prog w base' spare held 22 v d ps) : ∃ l, Ints w v l := by
  obtain ⟨a0, n0, c0, rfl⟩ := okWide_slice Try.underlying22 hv
  obtain ⟨fuel, h⟩ := h0
  obtain ⟨a, len, cap, m, C, e, hl, hm, _, hc, hx⟩ := slice_cells Try.underlying22 (by rw [cells_int]; omega) h
  rw [cells_int] at hc
  obtain ⟨f, hf⟩ := Go.Deep.choose_lt (n := len) (p := fun i (y : Int) => C i = [.int .i64 y]) (fun i hi => let ⟨_, y, hy⟩ := hx i hi; let ⟨n, h1, _⟩ := DataW.trod_int Try.underlying3 hy; ⟨n, h1⟩)
  refine ⟨(List.range len).map f, ⟨a, cap, by rw [e]; simp, by simpa using hl, hm, fun h0 => ?_⟩⟩
  obtain ⟨b, off, ha, hb, hcell⟩ := hc (by simpa using h0)
  refine ⟨b, off, ha, hb, fun i hi j hj => ?_⟩
  have hi' : i < len := by simpa using hi
  rw [hcell i hi' j hj, hf i hi']
  match j, hj with
  | 0, _ => simp [hi']
end
end Go.Proofs.Ytcmcojmhlgknoaa
