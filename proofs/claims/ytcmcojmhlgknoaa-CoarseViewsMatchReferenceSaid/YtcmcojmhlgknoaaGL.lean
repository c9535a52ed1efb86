/- Walk of the law's sanity. -/
import Derived.Test.YtcmcojmhlgknoaaGK
namespace Go.Proofs.Ytcmcojmhlgknoaa
open Go.RowKit

theorem spans_one {w : World} {g : Nat} {x y : Int} (h : Blk w g 28 #[.int .i64 x, .int .i64 y]) : Spans w (.slice (some ⟨g, 0, none⟩) 1 1) [(x, y)] := by
  have hd : spanCells [(x, y)] = [.int .i64 x, .int .i64 y] := rfl
  refine SpansO.read (B := 0) ⟨by rw [hd]; rfl, .inr ⟨g, 1, #[.int .i64 x, .int .i64 y], rfl, Nat.zero_le _, h, Nat.le_refl _, by unfold maxLen; omega, rfl, by rw [hd]; rfl⟩⟩
theorem ints_blk {w : World} {g : Nat} {l : List Int} (h : Blk w g 3 (l.map (Value.int .i64)).toArray) (hl : l.length ≤ maxLen) : Ints w (.slice (some ⟨g, 0, none⟩) l.length l.length) l := ints_of_blk h (Nat.le_refl _) hl
set_option maxHeartbeats 6400000 in
set_option maxRecDepth 100000 in
theorem sanity_calls (w : World) : Calls Try.prog 11 #[] w fun e w' => e = .returned (.bool true) ∧ Ext w w' := by
  have hE := Lib.hid (Ext.refl w)
  go_enter Try.func11, Try.ntmps11
  go_wp2_with fail
  refine (cells_calls 2 10 40 _).mono ?_
  rw [show cellsG 2 10 40 = (0, 1) by kernel_rfl]
  rintro e w1 ⟨rfl, hx⟩
  replace hE := Lib.hid (hE.out.trans hx)
  clear hx
  go_wp2_with fail
  refine (cells_calls 0 0 0 _).mono ?_
  rw [show cellsG 0 0 0 = (0, 12) by kernel_rfl]
  rintro e w2 ⟨rfl, hx⟩
  replace hE := Lib.hid (hE.out.trans hx)
  clear hx
  go_wp2_with fail
  refine (two_calls _).mono ?_
  rintro e w3 ⟨v, rfl, hm, hx⟩
  obtain ⟨mA1, mC1, rfl⟩ := hm.form
  have hM := Lib.hid hm
  replace hE := Lib.hid (hE.out.trans hx)
  clear hm hx
  go_wp2_with fail
  have hs := spans_one (w := w3.alloc (.cells #[.int .i64 40, .int .i64 100] 28)) (g := w3.heap.size) (blk_new' rfl rfl)
  refine (fits_calls _ _ twoL 2 [(40, 100)] _ (hM.out.ext ((Ext.refl w3).alloc _)) hs (by decide) (by decide)).mono ?_
  rw [show fitsG twoL 2 [(40, 100)] = (true, 0) by kernel_rfl]
  rintro e w4 ⟨rfl, hx⟩
  replace hE := Lib.hid ((hE.out.alloc _).trans hx)
  clear hx hM hs
  go_wp2_with fail
  refine (two_calls _).mono ?_
  rintro e w5 ⟨v, rfl, hm, hx⟩
  obtain ⟨mA2, mC2, rfl⟩ := hm.form
  have hM := Lib.hid hm
  replace hE := Lib.hid (hE.out.trans hx)
  clear hm hx
  go_wp2_with fail
  have hs := spans_one (w := w5.alloc (.cells #[.int .i64 39, .int .i64 100] 28)) (g := w5.heap.size) (blk_new' rfl rfl)
  refine (fits_calls _ _ twoL 2 [(39, 100)] _ (hM.out.ext ((Ext.refl w5).alloc _)) hs (by decide) (by decide)).mono ?_
  rw [show fitsG twoL 2 [(39, 100)] = (false, 0) by kernel_rfl]
  rintro e w6 ⟨rfl, hx⟩
  replace hE := Lib.hid ((hE.out.alloc _).trans hx)
  clear hx hM hs
  go_wp2_with fail
  refine (two_calls _).mono ?_
  rintro e w7 ⟨v, rfl, hm, hx⟩
  obtain ⟨mA3, mC3, rfl⟩ := hm.form
  have hM := Lib.hid hm
  replace hE := Lib.hid (hE.out.trans hx)
  clear hm hx
  go_wp2_with fail
  refine (fits_calls _ _ twoL 1 [] _ hM.out (spans_nil _) (by decide) (by decide)).mono ?_
  rw [show fitsG twoL 1 [] = (false, 12) by kernel_rfl]
  rintro e w8 ⟨rfl, hx⟩
  replace hE := Lib.hid (hE.out.trans hx)
  clear hx hM
  go_wp2_with fail
  have hi := ints_blk (w := (w8.alloc (.cells #[.int .i64 0, .int .i64 60] 28)).alloc (.cells #[.int .i64 0, .int .i64 5] 3)) (g := w8.heap.size + 1) (l := [0, 5]) (blk_new' (by rw [World.size_alloc]) rfl) (by decide)
  refine (coarser_calls _ [0, 5] 3 2 0 60 _ hi).mono ?_
  rw [show coarserG [0, 5] 3 2 0 60 = ([0, 1], 0) by kernel_rfl]
  rintro e w9 ⟨v, rfl, hv, hx⟩
  obtain ⟨hA, hC, rfl⟩ := hv.form
  have hHalf := Lib.hid hv
  have hB : Hid (Blk w9 w8.heap.size 28 #[.int .i64 0, .int .i64 60]) := Lib.hid ((Keep.of_ext (X := fun _ => False) hx).blk (Blk.alloc (blk_new' rfl rfl) _) id)
  replace hE := Lib.hid (((hE.out.alloc _).alloc _).trans hx)
  clear hx hv hi
  have c0 : w9.cell? ⟨w8.heap.size, 0, none⟩ = some (.int .i64 0) := hB.out.cell 0
  have c1 : w9.cell? ⟨w8.heap.size, 1, none⟩ = some (.int .i64 60) := hB.out.cell 1
  have lt := hB.out.lt
  go_wp2_with fail
  have hi := ints_blk (w := w9.alloc (.cells #[.int .i64 0, .int .i64 5] 3)) (g := w9.heap.size) (l := [0, 5]) (blk_new' rfl rfl) (by decide)
  refine (witness_calls _ [0, 5] 3 0 60 _ hi).mono ?_
  rw [show witG [0, 5] 3 0 60 = ([⟨30, 60, 1⟩, ⟨30, 60, 3⟩], 0) by kernel_rfl]
  rintro e w10 ⟨v, rfl, hv, hx⟩
  obtain ⟨kA, kC, rfl⟩ := hv.read.form
  have hWit := Lib.hid hv.read
  replace hHalf := Lib.hid (hHalf.out.ext (((Ext.refl w9).alloc _).trans hx))
  replace hE := Lib.hid ((hE.out.alloc _).trans hx)
  clear hx hv hi c0 c1 lt hB
  go_wp2_with fail
  have hWant : Hid (Marks (w10.alloc (.cells #[.int .i64 30, .int .i64 60, .int .i64 1, .int .i64 30, .int .i64 60, .int .i64 3] 47)) (.slice (some ⟨w10.heap.size, 0, none⟩) 2 2) [⟨30, 60, 1⟩, ⟨30, 60, 3⟩]) := Lib.hid (marks_of_blk (l := [⟨30, 60, 1⟩, ⟨30, 60, 3⟩]) (blk_new' rfl rfl) (by decide))
  replace hE := Lib.hid (hE.out.alloc (.cells #[.int .i64 30, .int .i64 60, .int .i64 1, .int .i64 30, .int .i64 60, .int .i64 3] 47))
  replace hHalf := Lib.hid (hHalf.out.ext ((Ext.refl w10).alloc (.cells #[.int .i64 30, .int .i64 60, .int .i64 1, .int .i64 30, .int .i64 60, .int .i64 3] 47)))
  replace hWit := Lib.hid (hWit.out.ext ((Ext.refl w10).alloc (.cells #[.int .i64 30, .int .i64 60, .int .i64 1, .int .i64 30, .int .i64 60, .int .i64 3] 47)))
  have hn := nums_of_blk (w := (w10.alloc (.cells #[.int .i64 30, .int .i64 60, .int .i64 1, .int .i64 30, .int .i64 60, .int .i64 3] 47)).alloc (.cells (numV [1, 1, 0]) 3)) (g := w10.heap.size + 1) (l := [1, 1, 0]) (blk_new' (by first | rfl | simp only [World.size_alloc]) rfl) (by decide)
  refine (sees_calls 1 0 4320 _ [1, 1, 0] _ hn (by kernel_rfl)).mono ?_
  rintro e w11 ⟨rfl, hx⟩
  replace hE := Lib.hid ((hE.out.alloc (.cells (numV [1, 1, 0]) 3)).trans hx)
  replace hHalf := Lib.hid (hHalf.out.ext (((Ext.refl (w10.alloc (.cells #[.int .i64 30, .int .i64 60, .int .i64 1, .int .i64 30, .int .i64 60, .int .i64 3] 47))).alloc (.cells (numV [1, 1, 0]) 3)).trans hx))
  replace hWit := Lib.hid (hWit.out.ext (((Ext.refl (w10.alloc (.cells #[.int .i64 30, .int .i64 60, .int .i64 1, .int .i64 30, .int .i64 60, .int .i64 3] 47))).alloc (.cells (numV [1, 1, 0]) 3)).trans hx))
  replace hWant := Lib.hid (hWant.out.ext (((Ext.refl (w10.alloc (.cells #[.int .i64 30, .int .i64 60, .int .i64 1, .int .i64 30, .int .i64 60, .int .i64 3] 47))).alloc (.cells (numV [1, 1, 0]) 3)).trans hx))
  clear hx hn
  go_wp2_with fail
  have hn := nums_of_blk (w := (w11).alloc (.cells (numV [1, 1, 0]) 3)) (g := w11.heap.size) (l := [1, 1, 0]) (blk_new' (by first | rfl | simp only [World.size_alloc]) rfl) (by decide)
  refine (sees_calls 2 0 90 _ [1, 1, 0] _ hn (by kernel_rfl)).mono ?_
  rintro e w12 ⟨rfl, hx⟩
  replace hE := Lib.hid ((hE.out.alloc (.cells (numV [1, 1, 0]) 3)).trans hx)
  replace hHalf := Lib.hid (hHalf.out.ext (((Ext.refl (w11)).alloc (.cells (numV [1, 1, 0]) 3)).trans hx))
  replace hWit := Lib.hid (hWit.out.ext (((Ext.refl (w11)).alloc (.cells (numV [1, 1, 0]) 3)).trans hx))
  replace hWant := Lib.hid (hWant.out.ext (((Ext.refl (w11)).alloc (.cells (numV [1, 1, 0]) 3)).trans hx))
  clear hx hn
  go_wp2_with fail
  have hn := nums_of_blk (w := (w12).alloc (.cells (numV [4, 4, 4, 4, 0]) 3)) (g := w12.heap.size) (l := [4, 4, 4, 4, 0]) (blk_new' (by first | rfl | simp only [World.size_alloc]) rfl) (by decide)
  refine (sees_calls 3 1380 1530 _ [4, 4, 4, 4, 0] _ hn (by kernel_rfl)).mono ?_
  rintro e w13 ⟨rfl, hx⟩
  replace hE := Lib.hid ((hE.out.alloc (.cells (numV [4, 4, 4, 4, 0]) 3)).trans hx)
  replace hHalf := Lib.hid (hHalf.out.ext (((Ext.refl (w12)).alloc (.cells (numV [4, 4, 4, 4, 0]) 3)).trans hx))
  replace hWit := Lib.hid (hWit.out.ext (((Ext.refl (w12)).alloc (.cells (numV [4, 4, 4, 4, 0]) 3)).trans hx))
  replace hWant := Lib.hid (hWant.out.ext (((Ext.refl (w12)).alloc (.cells (numV [4, 4, 4, 4, 0]) 3)).trans hx))
  clear hx hn
  go_wp2_with fail
  have hn := nums_of_blk (w := (w13).alloc (.cells (numV [1, 1, 0, 0]) 3)) (g := w13.heap.size) (l := [1, 1, 0, 0]) (blk_new' (by first | rfl | simp only [World.size_alloc]) rfl) (by decide)
  refine (sees_calls 4 38 42 _ [1, 1, 0, 0] _ hn (by kernel_rfl)).mono ?_
  rintro e w14 ⟨rfl, hx⟩
  replace hE := Lib.hid ((hE.out.alloc (.cells (numV [1, 1, 0, 0]) 3)).trans hx)
  replace hHalf := Lib.hid (hHalf.out.ext (((Ext.refl (w13)).alloc (.cells (numV [1, 1, 0, 0]) 3)).trans hx))
  replace hWit := Lib.hid (hWit.out.ext (((Ext.refl (w13)).alloc (.cells (numV [1, 1, 0, 0]) 3)).trans hx))
  replace hWant := Lib.hid (hWant.out.ext (((Ext.refl (w13)).alloc (.cells (numV [1, 1, 0, 0]) 3)).trans hx))
  clear hx hn
  go_wp2_with fail
  have hn := nums_of_blk (w := w14.alloc (.cells (numV [0, 1]) 3)) (g := w14.heap.size) (l := [0, 1]) (blk_new' rfl rfl) (by decide)
  refine (rNumbers_calls _ _ [0, 1] [0, 1] _ (hHalf.out.ext ((Ext.refl w14).alloc _)) hn).mono ?_
  rw [show decide (([0, 1] : List Nat) = [0, 1]) = true by decide]
  rintro e w15 ⟨rfl, hx⟩
  have hx14 : Ext w14 w15 := ((Ext.refl w14).alloc (.cells (numV [0, 1]) 3)).trans hx
  replace hE := Lib.hid (hE.out.trans hx14)
  replace hWit := Lib.hid (hWit.out.ext hx14)
  replace hWant := Lib.hid (hWant.out.ext hx14)
  clear hx hx14 hn hHalf
  go_wp2_with fail
  refine (rSameMarks_calls _ _ _ _ _ hWit.out hWant.out).mono ?_
  rw [sameM_self]
  rintro e w16 ⟨rfl, hx⟩
  go_wp2
  go_ret
  exact ⟨rfl, hE.out.trans hx⟩
end Go.Proofs.Ytcmcojmhlgknoaa
