import Derived.Test.YtgolicoalldidaaGreatRows
import Derived.Deep.Slices
import Derived.Test.YtgolicoalldidaaGreatZ10
set_option maxHeartbeats 12800000
namespace Go.Proofs.YtgolicoalldidaaGreat
open Go.ChangeShapes Go.WideShapes Go.ChangeAt Go.RowKit
theorem own_knob : ownKnob Tryz.prog.godebug = none := by kernel_rfl
theorem laid_out : laidOutB Tryz.prog = true := by kernel_rfl
section
variable {H : Type} {enc : TypeId × Value → H} {P : Program} {w : World} {base : Nat} {spare : Nat → Bool} {held : Bool}
theorem slice_cells {t e : TypeId} {fuel : Nat} {v : Value} {x : DataW H × List MemPlace} (ht : P.underlying t = some (.slice e)) (hk : 0 < P.cellsOf e) (h : DataW.trod enc P w base spare held fuel t [v] = some x) :
  ∃ (a : Option Addr) (len cap m : Nat) (C : Nat → List Value), v = .slice a len cap ∧ len ≤ cap ∧ cap ≤ maxLen ∧ (a = none → len = 0) ∧
   (0 < len → ∃ b off, a = some ⟨b, off, none⟩ ∧ b < w.heap.size ∧ ∀ i, i < len → ∀ j, j < P.cellsOf e → w.cell? ⟨b, off + i * P.cellsOf e + j, none⟩ = (C i)[j]?) ∧
   ∀ i, i < len → (C i).length = P.cellsOf e ∧ ∃ y, DataW.trod enc P w base spare held m e (C i) = some y := by
 rcases Go.Deep.open_slice ht h with ⟨hcs, _⟩ | ⟨a, len, cap, m, n, D, Pl, hcs, hb, hl, hm, hmm, _, hx⟩
 ·simp at hcs
  exact ⟨none, 0, 0, 0, fun _ => [], hcs, Nat.le_refl _, by unfold maxLen; omega, fun _ => rfl, fun h => absurd h (by omega), fun i hi => absurd hi (by omega)⟩
 ·simp at hcs
  have hlm : len ≤ m := by rw [hmm]; split <;> omega
  obtain ⟨C, hC⟩ := Go.Deep.choose_lt (n := len) (p := fun i cs' => w.cells? base (a.add (i * P.cellsOf e)) (P.cellsOf e) = some cs' ∧ DataW.trod enc P w base spare held n e cs' = some (D i, Pl i)) (fun i hi => hx i (by omega))
  refine ⟨some a, len, cap, n, C, hcs, hl, hm, (fun h => by cases h), fun h0 => ?_, fun i hi => ?_⟩
  ·obtain ⟨b, off, spot⟩ := a
   have c0 := World.cells?_some (hC 0 h0).1
   have c00 := c0.2.2 0 hk
   have hl0 : 0 < (C 0).length := by rw [c0.2.1]; exact hk
   rw [List.getElem?_eq_getElem hl0] at c00
   have hsp : spot = none := by
    have := World.cell?_spot c00
    simpa [Addr.add] using this
   subst hsp
   have hblt := World.block_lt_of_cell? _ _ c00
   refine ⟨b, off, rfl, by simpa [Addr.add] using hblt, fun i hi j hj => ?_⟩
   have ci := (World.cells?_some (hC i hi).1).2.2 j hj
   rw [Go.Deep.add_add] at ci
   have e : (⟨b, off, none⟩ : Addr).add (i * P.cellsOf e + j) = ⟨b, off + i * P.cellsOf e + j, none⟩ := by unfold Addr.add; split <;> simp_all <;> omega
   rw [← e]; exact ci
  ·exact ⟨(World.cells?_some (hC i hi).1).2.1, _, (hC i hi).2⟩
theorem trod_u8 {t : TypeId} {fuel : Nat} {cs : List Value} {x : DataW H × List MemPlace} (ht : P.underlying t = some (.int .u8)) (h : DataW.trod enc P w base spare held fuel t cs = some x) : ∃ n, cs = [.int .u8 n] ∧ byteB n := by
 obtain ⟨n, h1, _, h3⟩ := DataW.trod_int ht h
 refine ⟨n, h1, ?_⟩
 simpa [Lit.wf, IntKind.min, IntKind.max, IntKind.signed, IntKind.bits, byteB] using h3
end
theorem cells_u8 : Tryz.prog.cellsOf 5 = 1 := by kernel_rfl
theorem cells_oct : Tryz.prog.cellsOf 119 = 4 := by kernel_rfl
theorem cells_raw : Tryz.prog.cellsOf 117 = 2 := by kernel_rfl
section
variable {H : Type} {enc : TypeId × Value → H} {w : World} {base base' : Nat} {spare : Nat → Bool} {held : Bool}
set_option maxRecDepth 100000 in
theorem oct_of_trod {fuel : Nat} {cs : List Value} {x : DataW H × List MemPlace} (h : DataW.trod enc Tryz.prog w base spare held fuel 119 cs = some x) : ∃ y : Oct, OctOk y ∧ cs = [.int .u8 y.a, .int .u8 y.b, .int .u8 y.c, .int .u8 y.d] := by
 obtain ⟨xs, m, _, _, hl, hn, hx⟩ := DataW.trod_array Tryz.underlying119 h
 rw [cells_oct] at hl
 have hat : ∀ i, i < 4 → ∃ n, (cs.drop i).take 1 = [.int .u8 n] ∧ byteB n := by
  intro i hi
  have := hx i hi
  rw [cells_u8, Nat.mul_one, List.getElem?_eq_getElem (by omega)] at this
  exact trod_u8 Tryz.underlying5 this
 match cs, hl with
 | [c0, c1, c2, c3], _ =>
  obtain ⟨a, ha, ka⟩ := hat 0 (by omega)
  obtain ⟨b, hb, kb⟩ := hat 1 (by omega)
  obtain ⟨c, hc, kc⟩ := hat 2 (by omega)
  obtain ⟨d, hd, kd⟩ := hat 3 (by omega)
  simp at ha hb hc hd
  exact ⟨⟨a, b, c, d⟩, ⟨ka, kb, kc, kd⟩, by rw [ha, hb, hc, hd]⟩
set_option maxRecDepth 100000 in
theorem octs_of_trod {fuel : Nat} {v : Value} {x : DataW H × List MemPlace} (h : DataW.trod enc Tryz.prog w base spare held fuel 115 [v] = some x) : ∃ l, Octs w v l := by
 obtain ⟨a, len, cap, m, C, rfl, hl, hm, _, hc, hx⟩ := slice_cells Tryz.underlying115 (by rw [cells_oct]; omega) h
 rw [cells_oct] at hc
 obtain ⟨f, hf⟩ := Go.Deep.choose_lt (n := len) (p := fun i (y : Oct) => OctOk y ∧ C i = [.int .u8 y.a, .int .u8 y.b, .int .u8 y.c, .int .u8 y.d]) (fun i hi => let ⟨_, y, hy⟩ := hx i hi; oct_of_trod hy)
 refine ⟨(List.range len).map f, ⟨a, cap, by simp, by simpa using hl, hm, fun h0 => ?_⟩, ?_⟩
 ·obtain ⟨b, off, ha, hb, hcell⟩ := hc (by simpa using h0)
  refine ⟨b, off, ha, hb, fun i hi j hj => ?_⟩
  have hi' : i < len := by simpa using hi
  rw [hcell i hi' j hj, (hf i hi').2]
  match j, hj with
  | 0, _ => simp [hi', octCell]
  | 1, _ => simp [hi', octCell]
  | 2, _ => simp [hi', octCell]
  | 3, _ => simp [hi', octCell]
 ·intro y hy
  rw [List.mem_map] at hy
  obtain ⟨i, hi, rfl⟩ := hy
  exact (hf i (List.mem_range.1 hi)).1
set_option maxRecDepth 100000 in
theorem raw_of_trod {fuel : Nat} {cs : List Value} {x : DataW H × List MemPlace} (h : DataW.trod enc Tryz.prog w base spare held fuel 117 cs = some x) : ∃ (y : RawD) (sv : Value), byteB y.people ∧ Octs w sv y.opts ∧ cs = [.int .u8 y.people, sv] := by
 obtain ⟨xs, n, _, _, hl, hn, hx⟩ := DataW.trod_struct Tryz.underlying117 h
 rw [cells_raw] at hl
 have hn' : xs.length = 2 := hn
 match cs, hl with
 | [c0, c1], _ =>
  have h0 : DataW.trod enc Tryz.prog w base spare held n 5 (([c0, c1].drop 0).take (Tryz.prog.cellsOf 5)) = xs[0]? := hx 0 _ rfl
  have h1 : DataW.trod enc Tryz.prog w base spare held n 115 (([c0, c1].drop 1).take (Tryz.prog.cellsOf 115)) = xs[1]? := hx 1 _ rfl
  rw [List.getElem?_eq_getElem (by omega)] at h0 h1
  have e1 : Tryz.prog.cellsOf 115 = 1 := by kernel_rfl
  simp only [cells_u8, e1, List.drop_zero, List.take_succ_cons, List.take_zero, List.drop_succ_cons] at h0 h1
  obtain ⟨p, hp, kp⟩ := trod_u8 Tryz.underlying5 h0
  obtain ⟨l, hl⟩ := octs_of_trod h1
  simp at hp
  exact ⟨⟨p, l⟩, c1, kp, hl, by rw [hp]⟩
set_option maxRecDepth 100000 in
theorem raws_of_trod {r : Reach} {v : Value} {d : DataW H} {ps : List MemPlace} (hv : Value.okWide Tryz.prog w r base 54 v) (h0 : DataW.Trod enc Tryz.prog w base' spare held 54 v d ps) : ∃ l, Raws w v l := by
 obtain ⟨a0, n0, c0, rfl⟩ := okWide_slice Tryz.underlying54 hv
 obtain ⟨fuel, h⟩ := h0
 obtain ⟨a, len, cap, m, C, e, hl, hm, _, hc, hx⟩ := slice_cells Tryz.underlying54 (by rw [cells_raw]; omega) h
 rw [cells_raw] at hc
 obtain ⟨f, hf⟩ := Go.Deep.choose_lt (n := len) (p := fun i (y : RawD × Value) => byteB y.1.people ∧ Octs w y.2 y.1.opts ∧ C i = [.int .u8 y.1.people, y.2]) (fun i hi => let ⟨_, y, hy⟩ := hx i hi; let ⟨r, sv, h1, h2, h3⟩ := raw_of_trod hy; ⟨(r, sv), h1, h2, h3⟩)
 refine ⟨(List.range len).map fun i => (f i).1, fun i => (f i).2, ⟨a, cap, by simpa using e, by simpa using hl, hm, fun h0 => ?_⟩, fun i hi => ?_⟩
 ·obtain ⟨b, off, ha, hb, hcell⟩ := hc (by simpa using h0)
  refine ⟨b, off, ha, hb, fun i hi j hj => ?_⟩
  have hi' : i < len := by simpa using hi
  rw [hcell i hi' j hj, (hf i hi').2.2]
  match j, hj with
  | 0, _ => simp [hi']
  | 1, _ => rfl
 ·have hi' : i < len := by simpa using hi
  have h1 := hf i hi'
  simp only [List.getElem?_map, List.getElem?_range hi', Option.map_some, Option.getD_some]
  exact ⟨h1.2.1, h1.1⟩
end
end Go.Proofs.YtgolicoalldidaaGreat
namespace Go.Proofs.YtgolicoalldidaaGreat
open Go.ChangeShapes Go.WideShapes Go.ChangeAt Go.RowKit
section
variable {H : Type} {enc : TypeId × Value → H} {w : World} {base base' : Nat} {spare : Nat → Bool} {held : Bool}
end
end Go.Proofs.YtgolicoalldidaaGreat
namespace Go.Proofs.YtgolicoalldidaaGreat
open Go.ChangeShapes Go.WideShapes Go.ChangeAt Go.RowKit
section
variable {H : Type} {enc : TypeId × Value → H} {w : World} {base base' : Nat} {spare : Nat → Bool} {held : Bool}
end
end Go.Proofs.YtgolicoalldidaaGreat
namespace Go.Proofs.YtgolicoalldidaaGreat
open Go.ChangeShapes Go.WideShapes Go.ChangeAt Go.RowKit
section
variable {H : Type} {P : Program} {enc : TypeId × Value → H} {w : World} {base base' : Nat} {spare : Nat → Bool} {held : Bool}
end
section
variable {H : Type} {enc : TypeId × Value → H} {w : World} {base base' : Nat} {spare : Nat → Bool} {held : Bool}
end
end Go.Proofs.YtgolicoalldidaaGreat
