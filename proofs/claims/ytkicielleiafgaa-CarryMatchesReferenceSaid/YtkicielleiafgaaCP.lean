/- The law's example of carry, and sanity. -/
import Derived.Test.YtkicielleiafgaaCO
import Derived.Test.YtkicielleiafgaaSanLaw
namespace Go.Proofs.Ytkicielleiafgaa
open Go.RowKit

def exchangeT : List WishD := [⟨1, [], [⟨0, 1, [(0, 60)]⟩, ⟨0, 2, [(0, 60)]⟩]⟩, ⟨2, [], [⟨0, 2, [(0, 60)]⟩, ⟨0, 1, [(0, 60)]⟩]⟩]
theorem xc_order : orderS exchangeT [1, 1] = ([(0, -1), (1, 1), (0, 1)], 0) := by kernel_rfl
theorem xc_parked : parkedS exchangeT [(0, -1), (1, 1), (0, 1)] = (1, 0) := by kernel_rfl
theorem xc_play2 : playS exchangeT [(0, -1), (1, 1), (0, 1)] [2] = ([0, 0], false, 0) := by kernel_rfl
theorem xc_play3 : playS exchangeT [(0, -1), (1, 1), (0, 1)] [3] = ([1, 1], true, 0) := by kernel_rfl
theorem xc_c0 : checkS exchangeT [1, 1] [(0, -1), (1, 1), (0, 1)] = 0 := by kernel_rfl
theorem xc_c11 : checkS exchangeT [1, 1] [(0, 1), (1, 1)] = 11 := by kernel_rfl
theorem xc_c1 : checkS exchangeT [1, 0] [(0, -1), (1, 1), (0, 1)] = 1 := by kernel_rfl
theorem xc_s1 : sameSt [(0, -1), (1, 1), (0, 1)] [(0, -1), (1, 1), (0, 1)] = true := by kernel_rfl

theorem exchange_read {w : World} {t2 t3 t4 : TypeId} (b : Nat) (h1 : Blk w (b + 1) t2 #[.int .i64 0, .int .i64 60])
    (h2 : Blk w (b + 1 + 1) t3 #[.int .i64 0, .int .i64 1, .slice (some ⟨b + 1, 0, none⟩) 1 1, .int .i64 0, .int .i64 2, .slice (some ⟨b + 1, 0, none⟩) 1 1])
    (h4 : Blk w (b + 1 + 1 + 1 + 1) t3 #[.int .i64 0, .int .i64 2, .slice (some ⟨b + 1, 0, none⟩) 1 1, .int .i64 0, .int .i64 1, .slice (some ⟨b + 1, 0, none⟩) 1 1])
    (h6 : Blk w (b + 1 + 1 + 1 + 1 + 1 + 1) t4 #[.int .i64 1, .slice none 0 0, .slice (some ⟨b + 1 + 1, 0, none⟩) 2 2, .int .i64 2, .slice none 0 0, .slice (some ⟨b + 1 + 1 + 1 + 1, 0, none⟩) 2 2]) :
    Wishes w (.slice (some ⟨b + 1 + 1 + 1 + 1 + 1 + 1, 0, none⟩) 2 2) exchangeT := by
  have m1 : (1 : Nat) ≤ maxLen := by unfold maxLen; omega
  have m2 : (2 : Nat) ≤ maxLen := by unfold maxLen; omega
  have s1 := spans_of_blk (l := [(0, 60)]) h1 (Nat.le_refl 1) m1
  have o1 := opts_of_c (l := [⟨0, 1, [(0, 60)]⟩, ⟨0, 2, [(0, 60)]⟩]) h2.row (one_opt s1 (one_opt s1 rfl)) (Nat.le_refl 2) m2
  have o2 := opts_of_c (l := [⟨0, 2, [(0, 60)]⟩, ⟨0, 1, [(0, 60)]⟩]) h4.row (one_opt s1 (one_opt s1 rfl)) (Nat.le_refl 2) m2
  exact wishes_of_c (l := exchangeT) h6.row (one_wish ((IntsO.nil w 0).read) o1 (one_wish ((IntsO.nil w 0).read) o2 rfl)) (Nat.le_refl 2) m2

set_option maxHeartbeats 1600000 in
set_option maxRecDepth 100000 in
theorem exchange_calls (w : World) : Calls Try.prog 32 #[] w fun e w' => ∃ tv, e = .returned (.agg #[tv]) ∧ Wishes w' tv exchangeT ∧ Ext w w' := by
  go_enter Try.func32, Try.ntmps32
  go_wp2
  refine bodyPost_ret (v := .agg #[.slice (some ⟨w.heap.size + 1 + 1 + 1 + 1 + 1 + 1, 0, none⟩) 2 2]) (by simp [results, Try.results32, go_sem]) rfl ?_
  refine ⟨_, rfl, ?_, by exact (by repeat' (first | (with_reducible exact Ext.refl _) | (with_reducible assumption) | (with_reducible refine Ext.drewN ?_ _) | (with_reducible refine Ext.drew ?_) | (with_reducible refine Ext.alloc ?_ _) | (with_reducible refine Ext.trans ?_ (by with_reducible assumption))))⟩
  refine exchange_read w.heap.size (t2 := 78) (t3 := 89) (t4 := 87) ?_ ?_ ?_ ?_
  all_goals repeat (first | (refine blk_new' ?_ rfl; simp only [World.size_alloc]; done) | refine Blk.alloc ?_ _)

set_option maxHeartbeats 1600000 in
set_option maxRecDepth 100000 in
theorem sanity35_calls (w : World) : Calls Try.prog 13 #[] w fun e w' => e = .returned (.bool true) ∧ Ext w w' := by
  go_enter Try.func13, Try.ntmps13
  go_wp2_with fail
  refine (exchange_calls _).mono ?_
  rintro e w1 ⟨tv, rfl, ht, hx1⟩
  obtain ⟨ta, tc, rfl⟩ := ht.form
  rw [show exchangeT.length = 2 from rfl] at ht ⊢
  have ht1 := Lib.hid ht
  clear ht
  go_upto_region 2 with (fail)
  refine wp_abs (S := fun W => Ext w1 W ∧ Blk W w1.heap.size 3 #[.int .i64 1, .int .i64 1] ∧ Blk W (w1.heap.size + 1) 27 #[.slice ta 2 tc]) ?_ ?_
  · exact ⟨by exact (by repeat' (first | (with_reducible exact Ext.refl _) | (with_reducible assumption) | (with_reducible refine Ext.drewN ?_ _) | (with_reducible refine Ext.drew ?_) | (with_reducible refine Ext.alloc ?_ _) | (with_reducible refine Ext.trans ?_ (by with_reducible assumption)))), (blk_new' rfl rfl).alloc _, blk_new' (by simp only [World.size_alloc]) rfl⟩
  rintro W ⟨hW, bp, bt⟩
  have m2 : (2 : Nat) ≤ maxLen := by unfold maxLen; omega
  have m3 : (3 : Nat) ≤ maxLen := by unfold maxLen; omega
  have m1 : (1 : Nat) ≤ maxLen := by unfold maxLen; omega
  have hT := Lib.hid (ht1.out.ext hW)
  have hP := Lib.hid (ints_of_blk (l := [1, 1]) bp (Nat.le_refl 2) m2)
  have tb : W.cell? ⟨w1.heap.size + 1, 0, none⟩ = some (.slice ta 2 tc) := bt.cell 0
  have hb := bt.lt
  have hxW := Lib.hid (hx1.trans hW)
  clear hx1 ht1 hW bp bt
  revert tb hb hP
  generalize w1.heap.size + 1 = bt
  generalize w1.heap.size = bp
  intro hP tb hb
  go_wp2_with fail
  refine (order_calls (.slice ta 2 tc) _ exchangeT [1, 1] _ hT.out hP.out).mono ?_
  rintro e w2 ⟨v, rfl, hs, hx⟩
  obtain ⟨sa, sc, rfl⟩ := hs.read.form
  rw [xc_order] at hs ⊢
  have hS : Hid (Spans w2 (.slice sa 3 sc) [(0, -1), (1, 1), (0, 1)]) := Lib.hid hs.read
  clear hs
  replace hb : bt < w2.heap.size := Nat.lt_of_lt_of_le hb hx.size
  replace tb := hx.cell tb
  replace hT := Lib.hid (hT.out.ext hx)
  replace hP := Lib.hid (hP.out.ext hx)
  replace hxW := Lib.hid (hxW.out.trans hx)
  clear hx
  dsimp only [List.length]
  go_wp2_with fail
  refine (parked_calls (.slice ta 2 tc) _ exchangeT _ _ hT.out hS.out).mono ?_
  rintro e w3 ⟨rfl, hx⟩
  rw [xc_parked]
  replace hb : bt < w3.heap.size := Nat.lt_of_lt_of_le hb hx.size
  replace tb := hx.cell tb
  replace hT := Lib.hid (hT.out.ext hx)
  replace hP := Lib.hid (hP.out.ext hx)
  replace hS := Lib.hid (hS.out.ext hx)
  replace hxW := Lib.hid (hxW.out.trans hx)
  clear hx
  go_wp2_with fail
  have hq := Lib.hid ((Ext.refl w3).alloc (.cells #[.int .i64 2] 3))
  refine (play_calls (.slice ta 2 tc) (.slice sa 3 sc) (.slice (some ⟨w3.heap.size, 0, none⟩) 1 1) exchangeT _ [2] _ (hT.out.ext hq.out) (hS.out.ext hq.out) (ints_of_blk (l := [2]) (blk_new' rfl rfl) (Nat.le_refl 1) m1)).mono ?_
  rintro e w4 ⟨v, rfl, hs, hx⟩
  obtain ⟨ra, rc, rfl⟩ := hs.form
  rw [xc_play2] at hs ⊢
  have hR : Hid (Ints w4 (.slice ra 2 rc) [0, 0]) := Lib.hid hs
  replace hx := hq.out.trans hx
  clear hs hq
  replace hb : bt < w4.heap.size := Nat.lt_of_lt_of_le hb hx.size
  replace tb := hx.cell tb
  replace hT := Lib.hid (hT.out.ext hx)
  replace hP := Lib.hid (hP.out.ext hx)
  replace hS := Lib.hid (hS.out.ext hx)
  replace hxW := Lib.hid (hxW.out.trans hx)
  clear hx
  dsimp only [List.length]
  go_wp2_with fail
  have hq := Lib.hid ((Ext.refl w4).alloc (.cells #[.int .i64 3] 3))
  refine (play_calls (.slice ta 2 tc) (.slice sa 3 sc) (.slice (some ⟨w4.heap.size, 0, none⟩) 1 1) exchangeT _ [3] _ (hT.out.ext hq.out) (hS.out.ext hq.out) (ints_of_blk (l := [3]) (blk_new' rfl rfl) (Nat.le_refl 1) m1)).mono ?_
  rintro e w5 ⟨v, rfl, hs, hx⟩
  obtain ⟨ua, uc, rfl⟩ := hs.form
  rw [xc_play3] at hs ⊢
  have hU : Hid (Ints w5 (.slice ua 2 uc) [1, 1]) := Lib.hid hs
  replace hx := hq.out.trans hx
  clear hs hq
  replace hb : bt < w5.heap.size := Nat.lt_of_lt_of_le hb hx.size
  replace tb := hx.cell tb
  replace hT := Lib.hid (hT.out.ext hx)
  replace hP := Lib.hid (hP.out.ext hx)
  replace hS := Lib.hid (hS.out.ext hx)
  replace hR := Lib.hid (hR.out.ext hx)
  replace hxW := Lib.hid (hxW.out.trans hx)
  clear hx
  dsimp only [List.length]
  go_wp2_with fail
  have hq := Lib.hid (((Ext.refl w5).alloc (.cells #[.int .i64 0, .int .i64 1, .int .i64 1, .int .i64 1] 42)).alloc (.cells #[.int .i64 0, .int .i64 (-1), .int .i64 1, .int .i64 1, .int .i64 0, .int .i64 1] 42))
  have hB : Hid (Spans ((w5.alloc (.cells #[.int .i64 0, .int .i64 1, .int .i64 1, .int .i64 1] 42)).alloc (.cells #[.int .i64 0, .int .i64 (-1), .int .i64 1, .int .i64 1, .int .i64 0, .int .i64 1] 42)) (.slice (some ⟨w5.heap.size, 0, none⟩) 2 2) [(0, 1), (1, 1)]) := Lib.hid (spans_of_blk (l := [(0, 1), (1, 1)]) (Blk.alloc (blk_new' rfl rfl) _) (Nat.le_refl 2) m2)
  refine (rSameSteps_calls (.slice sa 3 sc) (.slice (some ⟨w5.heap.size + 1, 0, none⟩) 3 3) [(0, -1), (1, 1), (0, 1)] [(0, -1), (1, 1), (0, 1)] _ (hS.out.ext hq.out) (spans_of_blk (l := [(0, -1), (1, 1), (0, 1)]) (blk_new' (by simp only [World.size_alloc]) rfl) (Nat.le_refl 3) m3)).mono ?_
  rintro e w6 ⟨rfl, hx⟩
  rw [xc_s1]
  replace hB := Lib.hid (hB.out.ext hx)
  replace hx := hq.out.trans hx
  clear hq
  replace hb : bt < w6.heap.size := Nat.lt_of_lt_of_le hb hx.size
  replace tb := hx.cell tb
  replace hT := Lib.hid (hT.out.ext hx)
  replace hP := Lib.hid (hP.out.ext hx)
  replace hS := Lib.hid (hS.out.ext hx)
  replace hR := Lib.hid (hR.out.ext hx)
  replace hU := Lib.hid (hU.out.ext hx)
  replace hxW := Lib.hid (hxW.out.trans hx)
  clear hx
  revert hB
  generalize w5.heap.size = bb
  intro hB
  go_wp2_with fail
  have hq := Lib.hid ((Ext.refl w6).alloc (.cells #[.int .i64 0, .int .i64 0] 3))
  refine (rSame35_calls (.slice ra 2 rc) (.slice (some ⟨w6.heap.size, 0, none⟩) 2 2) [0, 0] [0, 0] _ (hR.out.ext hq.out) (ints_of_blk (l := [0, 0]) (blk_new' rfl rfl) (Nat.le_refl 2) m2)).mono ?_
  rintro e w7 ⟨rfl, hx⟩
  rw [show decide (([0, 0] : List Int) = [0, 0]) = true from rfl]
  replace hx := hq.out.trans hx
  clear hq
  replace hb : bt < w7.heap.size := Nat.lt_of_lt_of_le hb hx.size
  replace tb := hx.cell tb
  replace hT := Lib.hid (hT.out.ext hx)
  replace hP := Lib.hid (hP.out.ext hx)
  replace hS := Lib.hid (hS.out.ext hx)
  replace hB := Lib.hid (hB.out.ext hx)
  replace hU := Lib.hid (hU.out.ext hx)
  replace hxW := Lib.hid (hxW.out.trans hx)
  clear hx
  go_wp2_with fail
  refine (rSame35_calls (.slice ua 2 uc) _ [1, 1] [1, 1] _ hU.out hP.out).mono ?_
  rintro e w8 ⟨rfl, hx⟩
  rw [show decide (([1, 1] : List Int) = [1, 1]) = true from rfl]
  replace hb : bt < w8.heap.size := Nat.lt_of_lt_of_le hb hx.size
  replace tb := hx.cell tb
  replace hT := Lib.hid (hT.out.ext hx)
  replace hP := Lib.hid (hP.out.ext hx)
  replace hS := Lib.hid (hS.out.ext hx)
  replace hB := Lib.hid (hB.out.ext hx)
  replace hxW := Lib.hid (hxW.out.trans hx)
  clear hx
  go_wp2_with fail
  refine (carryCheckFull_calls (.slice ta 2 tc) _ (.slice sa 3 sc) exchangeT [1, 1] _ _ hT.out hP.out hS.out).mono ?_
  rintro e w9 ⟨rfl, hx⟩
  rw [xc_c0]
  replace hb : bt < w9.heap.size := Nat.lt_of_lt_of_le hb hx.size
  replace tb := hx.cell tb
  replace hT := Lib.hid (hT.out.ext hx)
  replace hP := Lib.hid (hP.out.ext hx)
  replace hS := Lib.hid (hS.out.ext hx)
  replace hB := Lib.hid (hB.out.ext hx)
  replace hxW := Lib.hid (hxW.out.trans hx)
  clear hx
  go_wp2_with fail
  refine (carryCheckFull_calls (.slice ta 2 tc) _ _ exchangeT [1, 1] _ _ hT.out hP.out hB.out).mono ?_
  rintro e w10 ⟨rfl, hx⟩
  rw [xc_c11]
  replace hb : bt < w10.heap.size := Nat.lt_of_lt_of_le hb hx.size
  replace tb := hx.cell tb
  replace hT := Lib.hid (hT.out.ext hx)
  replace hS := Lib.hid (hS.out.ext hx)
  replace hxW := Lib.hid (hxW.out.trans hx)
  clear hx
  go_wp2_with fail
  have hq := Lib.hid ((Ext.refl w10).alloc (.cells #[.int .i64 1, .int .i64 0] 3))
  refine (carryCheckFull_calls (.slice ta 2 tc) (.slice (some ⟨w10.heap.size, 0, none⟩) 2 2) (.slice sa 3 sc) exchangeT [1, 0] _ _ (hT.out.ext hq.out) (ints_of_blk (l := [1, 0]) (blk_new' rfl rfl) (Nat.le_refl 2) m2) (hS.out.ext hq.out)).mono ?_
  rintro e w11 ⟨rfl, hx⟩
  rw [xc_c1]
  replace hx := hq.out.trans hx
  clear hq
  replace hxW := Lib.hid (hxW.out.trans hx)
  clear hx
  go_wp2
  go_ret
  exact ⟨rfl, hxW.out⟩
end Go.Proofs.Ytkicielleiafgaa
