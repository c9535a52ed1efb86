/- Arguments that came in, read as plain data: lists of spans. -/
import Derived.Test.YtcmcojmhlgknoaaRows
import Derived.Test.YtcmcojmhlgknoaaXA
import Derived.ProofKit
import Derived.OpenShut
import Derived.ChangeOld
import Derived.Deep.Slices
namespace Go.Proofs.Ytcmcojmhlgknoaa
open Go.ChangeShapes Go.WideShapes Go.ChangeAt Go.RowKit

theorem own_knob : ownKnob Try.prog.godebug = none := by kernel_rfl
theorem laid_out : laidOutB Try.prog = true := by kernel_rfl

section
variable {H : Type} {enc : TypeId × Value → H} {P : Program} {w : World} {base : Nat} {spare : Nat → Bool} {held : Bool}
theorem slice_cells {t e : TypeId} {fuel : Nat} {v : Value} {x : DataW H × List MemPlace} (ht : P.underlying t = some (.slice e)) (hk : 0 < P.cellsOf e) (h : DataW.trod enc P w base spare held fuel t [v] = some x) :
    ∃ (a : Option Addr) (len cap m : Nat) (C : Nat → List Value), v = .slice a len cap ∧ len ≤ cap ∧ cap ≤ maxLen ∧ (a = none → len = 0) ∧
      (0 < len → ∃ b off, a = some ⟨b, off, none⟩ ∧ b < w.heap.size ∧ ∀ i, i < len → ∀ j, j < P.cellsOf e → w.cell? ⟨b, off + i * P.cellsOf e + j, none⟩ = (C i)[j]?) ∧
      ∀ i, i < len → (C i).length = P.cellsOf e ∧ ∃ y, DataW.trod enc P w base spare held m e (C i) = some y := by
  rcases Go.Deep.open_slice ht h with ⟨hcs, _⟩ | ⟨a, len, cap, m, n, D, Pl, hcs, hb, hl, hm, hmm, _, hx⟩
  · simp at hcs
    exact ⟨none, 0, 0, 0, fun _ => [], hcs, Nat.le_refl _, by unfold maxLen; omega, fun _ => rfl, fun h => absurd h (by omega), fun i hi => absurd hi (by omega)⟩
  · simp at hcs
    have hlm : len ≤ m := by rw [hmm]; split <;> omega
    obtain ⟨C, hC⟩ := Go.Deep.choose_lt (n := len) (p := fun i cs' => w.cells? base (a.add (i * P.cellsOf e)) (P.cellsOf e) = some cs' ∧ DataW.trod enc P w base spare held n e cs' = some (D i, Pl i)) (fun i hi => hx i (by omega))
    refine ⟨some a, len, cap, n, C, hcs, hl, hm, (fun h => by cases h), fun h0 => ?_, fun i hi => ?_⟩
    · obtain ⟨b, off, spot⟩ := a
      have c0 := World.cells?_some (hC 0 h0).1
      have c00 := c0.2.2 0 hk
      have hl0 : 0 < (C 0).length := by rw [c0.2.1]; exact hk
      rw [List.getElem?_eq_getElem hl0] at c00
      have hsp : spot = none := by
        have := World.cell?_spot c00
        simpa [Addr.add] using this
      subst hsp
      have hblt := World.block_lt_of_cell? _ _ c00
      refine ⟨b, off, rfl, by simpa [Addr.add] using hblt, fun i hi j hj => ?_⟩
      have ci := (World.cells?_some (hC i hi).1).2.2 j hj
      rw [Go.Deep.add_add] at ci
      have e : (⟨b, off, none⟩ : Addr).add (i * P.cellsOf e + j) = ⟨b, off + i * P.cellsOf e + j, none⟩ := by unfold Addr.add; split <;> simp_all <;> omega
      rw [← e]; exact ci
    · exact ⟨(World.cells?_some (hC i hi).1).2.1, _, (hC i hi).2⟩
end

theorem cells_int : Try.prog.cellsOf 3 = 1 := by kernel_rfl
theorem cells_span : Try.prog.cellsOf 28 = 2 := by kernel_rfl
section
variable {H : Type} {enc : TypeId × Value → H} {w : World} {base base' : Nat} {spare : Nat → Bool} {held : Bool}
set_option maxRecDepth 100000 in
theorem span_of_trod {fuel : Nat} {cs : List Value} {x : DataW H × List MemPlace} (h : DataW.trod enc Try.prog w base spare held fuel 28 cs = some x) : ∃ s : Int × Int, cs = [.int .i64 s.1, .int .i64 s.2] := by
  obtain ⟨xs, n, _, _, hl, hn, hx⟩ := DataW.trod_struct Try.underlying28 h
  rw [cells_span] at hl
  have hn' : xs.length = 2 := hn
  match cs, hl with
  | [c0, c1], _ =>
    have h0 : DataW.trod enc Try.prog w base spare held n 3 (([c0, c1].drop 0).take (Try.prog.cellsOf 3)) = xs[0]? := hx 0 _ rfl
    have h1 : DataW.trod enc Try.prog w base spare held n 3 (([c0, c1].drop 1).take (Try.prog.cellsOf 3)) = xs[1]? := hx 1 _ rfl
    rw [List.getElem?_eq_getElem (by omega)] at h0 h1
    simp only [cells_int, List.drop_zero, List.take_succ_cons, List.take_zero, List.drop_succ_cons] at h0 h1
    obtain ⟨a, ha, _, _⟩ := DataW.trod_int Try.underlying3 h0
    obtain ⟨b, hb, _, _⟩ := DataW.trod_int Try.underlying3 h1
    simp at ha hb
    exact ⟨(a, b), by rw [ha, hb]⟩
set_option maxRecDepth 100000 in
theorem spans_of_cell {fuel : Nat} {v : Value} {x : DataW H × List MemPlace} (h : DataW.trod enc Try.prog w base spare held fuel 45 [v] = some x) : ∃ l, Spans w v l := by
  obtain ⟨a, len, cap, m, C, rfl, hl, hm, _, hc, hx⟩ := slice_cells Try.underlying45 (by rw [cells_span]; omega) h
  rw [cells_span] at hc
  obtain ⟨f, hf⟩ := Go.Deep.choose_lt (n := len) (p := fun i (y : Int × Int) => C i = [.int .i64 y.1, .int .i64 y.2]) (fun i hi => let ⟨_, y, hy⟩ := hx i hi; span_of_trod hy)
  refine ⟨(List.range len).map f, ⟨a, cap, by simp, by simpa using hl, hm, fun h0 => ?_⟩⟩
  obtain ⟨b, off, ha, hb, hcell⟩ := hc (by simpa using h0)
  refine ⟨b, off, ha, hb, fun i hi j hj => ?_⟩
  have hi' : i < len := by simpa using hi
  rw [hcell i hi' j hj, hf i hi']
  match j, hj with
  | 0, _ => simp [hi']
  | 1, _ => simp [hi']
set_option maxRecDepth 100000 in
theorem spans_of_trod {r : Reach} {v : Value} {d : DataW H} {ps : List MemPlace} (hv : Value.okWide Try.prog w r base 45 v) (h0 : DataW.Trod enc Try.prog w base' spare held 45 v d ps) : ∃ l, Spans w v l := by
  obtain ⟨a0, n0, c0, rfl⟩ := okWide_slice Try.underlying45 hv
  obtain ⟨fuel, h⟩ := h0
  exact spans_of_cell h
end
end Go.Proofs.Ytcmcojmhlgknoaa
