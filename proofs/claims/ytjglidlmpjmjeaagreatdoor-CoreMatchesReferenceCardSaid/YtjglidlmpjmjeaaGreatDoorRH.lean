/- Walks of the reference of plans: Meets. -/
import Derived.Test.YtjglidlmpjmjeaaGreatDoorRG
import Derived.Test.YtjglidlmpjmjeaaGreatDoorMonoP
namespace Go.Proofs.YtjglidlmpjmjeaaGreatDoor
open Go.RowKit

theorem within_a {t : List WishD} {a : Int} (i b k : Int) (h : withinB t a i = false) : clashT t a i b k = false := by
 unfold withinB at h
 cases ha : idxB a t.length with
 | false => exact clashT_a ha i b k
 | true =>
  obtain ⟨n, rfl, hn⟩ := idxB_nat ha
  have hx := List.getElem?_eq_getElem hn
  rw [ha, Int.toNat_natCast, hx, Option.getD_some, Bool.true_and] at h
  exact clashT_i hx h b k
theorem within_b {t : List WishD} {b : Int} (a i k : Int) (h : withinB t b k = false) : clashT t a i b k = false := by
 unfold withinB at h
 cases hb : idxB b t.length with
 | false => exact clashT_b hb a i k
 | true =>
  obtain ⟨n, rfl, hn⟩ := idxB_nat hb
  have hx := List.getElem?_eq_getElem hn
  rw [hb, Int.toNat_natCast, hx, Option.getD_some, Bool.true_and] at h
  exact clashT_k hx h a i
theorem within_nat {t : List WishD} {a i : Int} (h : withinB t a i = true) : ∃ (n j : Nat) (x : WishD) (o : OptD), a = n ∧ i = j ∧ n < t.length ∧ t[n]? = some x ∧ j < x.opts.length ∧ x.opts[j]? = some o := by
 unfold withinB at h
 rw [Bool.and_eq_true] at h
 obtain ⟨n, rfl, hn⟩ := idxB_nat h.1
 have hx := List.getElem?_eq_getElem hn
 have h2 := h.2
 rw [Int.toNat_natCast, hx, Option.getD_some] at h2
 obtain ⟨j, rfl, hj⟩ := idxB_nat h2
 exact ⟨n, j, _, _, rfl, rfl, hn, hx, hj, List.getElem?_eq_getElem hj⟩
set_option maxHeartbeats 6400000 in
set_option maxRecDepth 100000 in
theorem rMeets_calls (wv : Value) (t : List WishD) (a i b k : Int) (w : World) (h : Wishes w wv t) (hv : validT t = 0) :
  Calls Tryz.prog 69 #[.agg #[wv], .agg #[.int .i64 a, .int .i64 i], .agg #[.int .i64 b, .int .i64 k]] w fun e w' => e = .returned (.bool (clashT t a i b k)) ∧ Ext w w' := by
 have hT := Lib.hid h
 obtain ⟨ta, tc, rfl, hn, hc, hat⟩ := h.open
 have hat' := Lib.hid hat
 have hw1 : Hid (∀ z, withinB t a i = z → ∀ W, Ext w W → Calls Tryz.prog 86 #[.agg #[.slice ta t.length tc], .agg #[.int .i64 a, .int .i64 i]] W fun e w' => e = .returned (.bool z) ∧ Ext W w') := fun z hz W hW => hz ▸ rWithin_calls _ t a i W (hT.out.ext hW)
 have hw2 : Hid (∀ z, withinB t b k = z → ∀ W, Ext w W → Calls Tryz.prog 86 #[.agg #[.slice ta t.length tc], .agg #[.int .i64 b, .int .i64 k]] W fun e w' => e = .returned (.bool z) ∧ Ext W w') := fun z hz W hW => hz ▸ rWithin_calls _ t b k W (hT.out.ext hW)
 clear h hat
 cases hA : withinB t a i with
 | false =>
  have R : Hid (clashT t a i b k = false) := within_a i b k hA
  obtain ⟨z, hB⟩ : ∃ z, Hid (withinB t b k = z) := ⟨_, rfl⟩
  replace hA := Lib.hid hA
  go_enter Tryz.func69, Tryz.ntmps69
  go_upto_region 1 with (fail)
  refine wp_abs (S := fun W => Ext w W ∧ Blk W w.heap.size 27 #[.slice ta t.length tc] ∧ Blk W (w.heap.size + 1) 100 #[.int .i64 a, .int .i64 i] ∧ Blk W (w.heap.size + 1 + 1) 100 #[.int .i64 b, .int .i64 k]) ?_ ?_
  ·refine ⟨by exact (by with_reducible repeat' (first | exact Ext.refl _ | assumption | refine Ext.drewN ?_ _ | refine Ext.drew ?_ | refine Ext.alloc ?_ _ | refine Ext.trans ?_ (by with_reducible assumption))), ?_, ?_, ?_⟩
   all_goals repeat (first | (refine blk_new' ?_ rfl; simp only [World.size_alloc]; done) | refine Blk.alloc ?_ _)
  rintro W ⟨hW, B0, B1, B2⟩
  have c0 : W.cell? ⟨w.heap.size, 0, none⟩ = some (.slice ta t.length tc) := B0.cell 0
  have c1 : W.cell? ⟨w.heap.size + 1, 0, none⟩ = some (.int .i64 a) := B1.cell 0
  have c2 : W.cell? ⟨w.heap.size + 1, 1, none⟩ = some (.int .i64 i) := B1.cell 1
  have c3 : W.cell? ⟨w.heap.size + 1 + 1, 0, none⟩ = some (.int .i64 b) := B2.cell 0
  have c4 : W.cell? ⟨w.heap.size + 1 + 1, 1, none⟩ = some (.int .i64 k) := B2.cell 1
  clear B0 B1 B2
  have hq1 : Hid (∀ V, Ext W V → Calls Tryz.prog 86 #[.agg #[.slice ta t.length tc], .agg #[.int .i64 a, .int .i64 i]] V fun e w' => e = .returned (.bool false) ∧ Ext V w') := fun V hV => hw1.out _ hA.out V (hW.trans hV)
  have hq2 : Hid (∀ V, Ext W V → Calls Tryz.prog 86 #[.agg #[.slice ta t.length tc], .agg #[.int .i64 b, .int .i64 k]] V fun e w' => e = .returned (.bool z) ∧ Ext V w') := fun V hV => hw2.out _ hB.out V (hW.trans hV)
  clear hw1 hw2
  have z0 := After.cell c0
  have z1 := After.cell c1
  have z2 := After.cell c2
  have z3 := After.cell c3
  have z4 := After.cell c4
  refine wp_region_after (by kernel_rfl) (by kernel_rfl) ?_
  repeat (go_big_quiet_step (first | (with_reducible exact After.call _ (hq1.out _ (After.ext _))) | (exact After.call _ (hq2.out _ (After.ext _)))))
  refine wpQuiet_nil ?_
  rintro _ ⟨y0, rfl⟩
  have hy0 := y0.ext
  generalize y0.world = V at hy0 ⊢
  clear z0 z1 z2 z3 z4
  go_wp2
  go_ret
  rw [R.out]
  exact ⟨rfl, hW.trans hy0⟩
 | true =>
  have hA0 := Lib.hid hA
  replace hA := Lib.hid hA
  cases hB : withinB t b k with
  | false =>
   have R : Hid (clashT t a i b k = false) := within_b _ _ k hB
   replace hB := Lib.hid hB
   go_enter Tryz.func69, Tryz.ntmps69
   go_upto_region 1 with (fail)
   refine wp_abs (S := fun W => Ext w W ∧ Blk W w.heap.size 27 #[.slice ta t.length tc] ∧ Blk W (w.heap.size + 1) 100 #[.int .i64 a, .int .i64 i] ∧ Blk W (w.heap.size + 1 + 1) 100 #[.int .i64 b, .int .i64 k]) ?_ ?_
   ·refine ⟨by exact (by with_reducible repeat' (first | exact Ext.refl _ | assumption | refine Ext.drewN ?_ _ | refine Ext.drew ?_ | refine Ext.alloc ?_ _ | refine Ext.trans ?_ (by with_reducible assumption))), ?_, ?_, ?_⟩
    all_goals repeat (first | (refine blk_new' ?_ rfl; simp only [World.size_alloc]; done) | refine Blk.alloc ?_ _)
   rintro W ⟨hW, B0, B1, B2⟩
   have c0 : W.cell? ⟨w.heap.size, 0, none⟩ = some (.slice ta t.length tc) := B0.cell 0
   have c1 : W.cell? ⟨w.heap.size + 1, 0, none⟩ = some (.int .i64 a) := B1.cell 0
   have c2 : W.cell? ⟨w.heap.size + 1, 1, none⟩ = some (.int .i64 i) := B1.cell 1
   have c3 : W.cell? ⟨w.heap.size + 1 + 1, 0, none⟩ = some (.int .i64 b) := B2.cell 0
   have c4 : W.cell? ⟨w.heap.size + 1 + 1, 1, none⟩ = some (.int .i64 k) := B2.cell 1
   clear B0 B1 B2
   have hq1 : Hid (∀ V, Ext W V → Calls Tryz.prog 86 #[.agg #[.slice ta t.length tc], .agg #[.int .i64 a, .int .i64 i]] V fun e w' => e = .returned (.bool true) ∧ Ext V w') := fun V hV => hw1.out _ hA.out V (hW.trans hV)
   have hq2 : Hid (∀ V, Ext W V → Calls Tryz.prog 86 #[.agg #[.slice ta t.length tc], .agg #[.int .i64 b, .int .i64 k]] V fun e w' => e = .returned (.bool false) ∧ Ext V w') := fun V hV => hw2.out _ hB.out V (hW.trans hV)
   clear hw1 hw2
   have z0 := After.cell c0
   have z1 := After.cell c1
   have z2 := After.cell c2
   have z3 := After.cell c3
   have z4 := After.cell c4
   refine wp_region_after (by kernel_rfl) (by kernel_rfl) ?_
   repeat (go_big_quiet_step (first | (with_reducible exact After.call _ (hq1.out _ (After.ext _))) | (exact After.call _ (hq2.out _ (After.ext _)))))
   refine wpQuiet_nil ?_
   rintro _ ⟨y0, rfl⟩
   have hy0 := y0.ext
   generalize y0.world = V at hy0 ⊢
   clear z0 z1 z2 z3 z4
   go_wp2
   go_ret
   rw [R.out]
   exact ⟨rfl, hW.trans hy0⟩
  | true =>
   have hB0 := Lib.hid hB
   replace hB := Lib.hid hB
   by_cases hnm : a = b
   ·have R : Hid (clashT t a i b k = false) := by show _ = _; rw [hnm]; exact clashT_same _ _ _ _
    have heq : (a == b) = true := by rw [beq_iff_eq]; exact hnm
    clear hnm
    go_enter Tryz.func69, Tryz.ntmps69
    go_upto_region 1 with (fail)
    refine wp_abs (S := fun W => Ext w W ∧ Blk W w.heap.size 27 #[.slice ta t.length tc] ∧ Blk W (w.heap.size + 1) 100 #[.int .i64 a, .int .i64 i] ∧ Blk W (w.heap.size + 1 + 1) 100 #[.int .i64 b, .int .i64 k]) ?_ ?_
    ·refine ⟨by exact (by with_reducible repeat' (first | exact Ext.refl _ | assumption | refine Ext.drewN ?_ _ | refine Ext.drew ?_ | refine Ext.alloc ?_ _ | refine Ext.trans ?_ (by with_reducible assumption))), ?_, ?_, ?_⟩
     all_goals repeat (first | (refine blk_new' ?_ rfl; simp only [World.size_alloc]; done) | refine Blk.alloc ?_ _)
    rintro W ⟨hW, B0, B1, B2⟩
    have c0 : W.cell? ⟨w.heap.size, 0, none⟩ = some (.slice ta t.length tc) := B0.cell 0
    have c1 : W.cell? ⟨w.heap.size + 1, 0, none⟩ = some (.int .i64 a) := B1.cell 0
    have c2 : W.cell? ⟨w.heap.size + 1, 1, none⟩ = some (.int .i64 i) := B1.cell 1
    have c3 : W.cell? ⟨w.heap.size + 1 + 1, 0, none⟩ = some (.int .i64 b) := B2.cell 0
    have c4 : W.cell? ⟨w.heap.size + 1 + 1, 1, none⟩ = some (.int .i64 k) := B2.cell 1
    clear B0 B1 B2
    have hq1 : Hid (∀ V, Ext W V → Calls Tryz.prog 86 #[.agg #[.slice ta t.length tc], .agg #[.int .i64 a, .int .i64 i]] V fun e w' => e = .returned (.bool true) ∧ Ext V w') := fun V hV => hw1.out _ hA.out V (hW.trans hV)
    have hq2 : Hid (∀ V, Ext W V → Calls Tryz.prog 86 #[.agg #[.slice ta t.length tc], .agg #[.int .i64 b, .int .i64 k]] V fun e w' => e = .returned (.bool true) ∧ Ext V w') := fun V hV => hw2.out _ hB.out V (hW.trans hV)
    clear hw1 hw2
    have z0 := After.cell c0
    have z1 := After.cell c1
    have z2 := After.cell c2
    have z3 := After.cell c3
    have z4 := After.cell c4
    refine wp_region_after (by kernel_rfl) (by kernel_rfl) ?_
    repeat (go_big_quiet_step (first | (with_reducible exact After.call _ (hq1.out _ (After.ext _))) | (exact After.call _ (hq2.out _ (After.ext _)))))
    refine wpQuiet_nil ?_
    rintro _ ⟨y0, rfl⟩
    have hy0 := y0.ext
    generalize y0.world = V at hy0 ⊢
    clear z0 z1 z2 z3 z4
    have d1 := hy0.cell c1
    have d3 := hy0.cell c3
    go_wp2
    go_ret
    rw [R.out]
    exact ⟨rfl, hW.trans hy0⟩
   ·have hne : (a == b) = false := by rw [beq_eq_false_iff_ne]; omega
    go_enter Tryz.func69, Tryz.ntmps69
    go_upto_region 1 with (fail)
    refine wp_abs (S := fun W => Ext w W ∧ Blk W w.heap.size 27 #[.slice ta t.length tc] ∧ Blk W (w.heap.size + 1) 100 #[.int .i64 a, .int .i64 i] ∧ Blk W (w.heap.size + 1 + 1) 100 #[.int .i64 b, .int .i64 k]) ?_ ?_
    ·refine ⟨by exact (by with_reducible repeat' (first | exact Ext.refl _ | assumption | refine Ext.drewN ?_ _ | refine Ext.drew ?_ | refine Ext.alloc ?_ _ | refine Ext.trans ?_ (by with_reducible assumption))), ?_, ?_, ?_⟩
     all_goals repeat (first | (refine blk_new' ?_ rfl; simp only [World.size_alloc]; done) | refine Blk.alloc ?_ _)
    rintro W ⟨hW, B0, B1, B2⟩
    have c0 : W.cell? ⟨w.heap.size, 0, none⟩ = some (.slice ta t.length tc) := B0.cell 0
    have c1 : W.cell? ⟨w.heap.size + 1, 0, none⟩ = some (.int .i64 a) := B1.cell 0
    have c2 : W.cell? ⟨w.heap.size + 1, 1, none⟩ = some (.int .i64 i) := B1.cell 1
    have c3 : W.cell? ⟨w.heap.size + 1 + 1, 0, none⟩ = some (.int .i64 b) := B2.cell 0
    have c4 : W.cell? ⟨w.heap.size + 1 + 1, 1, none⟩ = some (.int .i64 k) := B2.cell 1
    clear B0 B1 B2
    have hq1 : Hid (∀ V, Ext W V → Calls Tryz.prog 86 #[.agg #[.slice ta t.length tc], .agg #[.int .i64 a, .int .i64 i]] V fun e w' => e = .returned (.bool true) ∧ Ext V w') := fun V hV => hw1.out _ hA.out V (hW.trans hV)
    have hq2 : Hid (∀ V, Ext W V → Calls Tryz.prog 86 #[.agg #[.slice ta t.length tc], .agg #[.int .i64 b, .int .i64 k]] V fun e w' => e = .returned (.bool true) ∧ Ext V w') := fun V hV => hw2.out _ hB.out V (hW.trans hV)
    clear hw1 hw2
    have z0 := After.cell c0
    have z1 := After.cell c1
    have z2 := After.cell c2
    have z3 := After.cell c3
    have z4 := After.cell c4
    refine wp_region_after (by kernel_rfl) (by kernel_rfl) ?_
    repeat (go_big_quiet_step (first | (with_reducible exact After.call _ (hq1.out _ (After.ext _))) | (exact After.call _ (hq2.out _ (After.ext _)))))
    refine wpQuiet_nil ?_
    rintro _ ⟨y0, rfl⟩
    have hy0 := y0.ext
    generalize y0.world = V at hy0 ⊢
    clear z0 z1 z2 z3 z4
    obtain ⟨n, j, x, o, rfl, rfl, hn', hx, hj, ho⟩ := within_nat hA0.out
    obtain ⟨m, l, y, q, rfl, rfl, hm', hy, hl, hq⟩ := within_nat hB0.out
    have hnm' : n ≠ m := by omega
    have R : Hid (clashT t (n : Int) (j : Int) m l = clashB x y o q) := clashT_eq hv hnm' hx hy ho hq
    have ix := (taskIn_of hv x (List.mem_of_getElem? hx)).2 o (List.mem_of_getElem? ho)
    have iy := (taskIn_of hv y (List.mem_of_getElem? hy)).2 q (List.mem_of_getElem? hq)
    have hlx : o.spans.length ≤ 64 := ((tooLarge_iff.1 (validT_ok hv).1).2 x (List.mem_of_getElem? hx)).2.2 o (List.mem_of_getElem? ho)
    have hly : q.spans.length ≤ 64 := ((tooLarge_iff.1 (validT_ok hv).1).2 y (List.mem_of_getElem? hy)).2.2 q (List.mem_of_getElem? hq)
    have R2 : Hid (decide (0 < (combL 1 o.spans q.spans).length) = meetB o.spans q.spans) := comb_meet ix.2 iy.2
    have hx' := Lib.hid hx
    have hy' := Lib.hid hy
    have ho' := Lib.hid ho
    have hq' := Lib.hid hq
    clear hx hy ho hq ix iy
    have hWV := hW.trans hy0
    have d0 := hy0.cell c0
    have d1 := hy0.cell c1
    have d2 := hy0.cell c2
    have d3 := hy0.cell c3
    have d4 := hy0.cell c4
    clear c0 c1 c2 c3 c4 hq1 hq2 y0
    obtain ⟨b1, o1, x1, pa, pc, oa, oc, rfl, hb1, _, ex, f0, f1, f2, gp, go⟩ := hat'.out n hn' V hWV
    obtain ⟨b2, o2, y1, pa2, pc2, oa2, oc2, e2, hb2, _, ey, k0, k1, k2, gp2, go2⟩ := hat'.out m hm' V hWV
    cases e2
    obtain rfl : x = x1 := Option.some.inj (hx'.out.symm.trans ex.out)
    obtain rfl : y = y1 := Option.some.inj (hy'.out.symm.trans ey.out)
    have lp := gp.len
    have lo := go.len
    have lp2 := gp2.len
    have lo2 := go2.len
    have hgp := Lib.hid gp
    have hgo := Lib.hid go
    have hgp2 := Lib.hid gp2
    have hgo2 := Lib.hid go2
    clear gp go gp2 go2 ex ey hat'
    have hB0 : w.heap.size < V.heap.size := World.block_lt_of_cell? _ _ d0
    have hB1 : w.heap.size + 1 < V.heap.size := World.block_lt_of_cell? _ _ d1
    have hB2 : w.heap.size + 1 + 1 < V.heap.size := World.block_lt_of_cell? _ _ d3
    clear hT hA hA0 hB hW hy0 W
    have hWV' := Lib.hid hWV
    have R' := R
    clear hWV R
    go_upto_region 4 with fail
    go_cut [9, 10] from 14 (fun p9 p10 wx => ∃ g1 g2 : Nat, p9 = .pointer (some ⟨g1, 0, none⟩) ∧ p10 = .pointer (some ⟨g2, 0, none⟩) ∧ Hid (Ext V wx) ∧ Hid (Blk wx g1 52 #[.int .i64 x.meeting, .slice pa x.people.length pc, .slice oa x.opts.length oc]) ∧ Hid (Blk wx g2 52 #[.int .i64 y.meeting, .slice pa2 y.people.length pc2, .slice oa2 y.opts.length oc2]))
    case first =>
     go_big_region
     all_goals
      go_wp2_with fail
      go_meet
      refine ⟨_, _, rfl, rfl, Lib.hid (by exact (by with_reducible repeat' (first | exact Ext.refl _ | assumption | refine Ext.drewN ?_ _ | refine Ext.drew ?_ | refine Ext.alloc ?_ _ | refine Ext.trans ?_ (by with_reducible assumption)))), ?_, ?_⟩
      all_goals refine Lib.hid ?_
      all_goals repeat (first | (refine blk_new' ?_ rfl; simp only [World.size_alloc]; done) | refine Blk.alloc ?_ _)
    case rest =>
    obtain ⟨g1, g2, rfl, rfl, hE, hX, hY⟩ := hcut
    obtain ⟨A3, C3, e3, _, _, hat3⟩ := (hgo.out.ext hE.out).open
    cases e3
    obtain ⟨A4, C4, e4, _, _, hat4⟩ := (hgo2.out.ext hE.out).open
    cases e4
    obtain ⟨b3, o3, xo, sa, sc, rfl, hb3, _, ex3, r0, r1, r2, gs⟩ := hat3 j hj wc (Ext.refl _)
    obtain ⟨b4, o4, yo, sa4, sc4, rfl, hb4, _, ex4, s0, s1, s2, gs4⟩ := hat4 l hl wc (Ext.refl _)
    obtain rfl : o = xo := Option.some.inj (ho'.out.symm.trans ex3.out)
    obtain rfl : q = yo := Option.some.inj (hq'.out.symm.trans ex4.out)
    have hgs := Lib.hid gs
    have hgs4 := Lib.hid gs4
    have hpA := Lib.hid (hgp.out.ext hE.out)
    have hpB := Lib.hid (hgp2.out.ext hE.out)
    have q2 := hE.out.cell d2
    have q4 := hE.out.cell d4
    have x2 : wc.cell? ⟨g1, 2, none⟩ = some (.slice (some ⟨b3, o3, none⟩) x.opts.length oc) := hX.out.cell 2
    have y2 : wc.cell? ⟨g2, 2, none⟩ = some (.slice (some ⟨b4, o4, none⟩) y.opts.length oc2) := hY.out.cell 2
    have lg1 := hX.out.lt
    have lg2 := hY.out.lt
    have hC1 : w.heap.size + 1 < wc.heap.size := World.block_lt_of_cell? _ _ q2
    have hC2 : w.heap.size + 1 + 1 < wc.heap.size := World.block_lt_of_cell? _ _ q4
    have hC0 : w.heap.size < wc.heap.size := by omega
    have hwc := Lib.hid (hWV'.out.trans hE.out)
    clear hat3 hat4 ex3 ex4 gs gs4 hgp hgp2 hgo hgo2 d0 d1 d2 d3 d4 f0 f1 f2 k0 k1 k2 hB0 hB1 hB2 hb1 hb2 hWV' hE
    obtain ⟨w6, hw6⟩ : ∃ w6 : World, Hid (wc = w6) := ⟨_, rfl⟩
    go_upto_region 5 with fail
    go_cut [11, 12] from 14 (fun p11 p12 wx => ∃ h1 h2 : Nat, p11 = .pointer (some ⟨h1, 0, none⟩) ∧ p12 = .pointer (some ⟨h2, 0, none⟩) ∧ Hid (Ext w6 wx) ∧ Hid (Blk wx h1 55 #[.int .i64 o.harm, .int .i64 o.room, .slice sa o.spans.length sc]) ∧ Hid (Blk wx h2 55 #[.int .i64 q.harm, .int .i64 q.room, .slice sa4 q.spans.length sc4]))
    case first =>
     go_big_region
     all_goals
      go_wp2_with fail
      go_meet
      rw [← hw6.out]
      refine ⟨_, _, rfl, rfl, Lib.hid (by exact (by with_reducible repeat' (first | exact Ext.refl _ | assumption | refine Ext.drewN ?_ _ | refine Ext.drew ?_ | refine Ext.alloc ?_ _ | refine Ext.trans ?_ (by with_reducible assumption)))), ?_, ?_⟩
      all_goals refine Lib.hid ?_
      all_goals repeat (first | (refine blk_new' ?_ rfl; simp only [World.size_alloc]; done) | refine Blk.alloc ?_ _)
    case rest =>
    obtain ⟨h1, h2, rfl, rfl, hE6, hO1, hO2⟩ := hcut
    rw [← hw6.out] at hE6
    have hwd := Lib.hid (hwc.out.trans hE6.out)
    have v1 : wc.cell? ⟨h1, 1, none⟩ = some (.int .i64 o.room) := hO1.out.cell 1
    have v2 : wc.cell? ⟨h1, 2, none⟩ = some (.slice sa o.spans.length sc) := hO1.out.cell 2
    have v3 : wc.cell? ⟨h2, 1, none⟩ = some (.int .i64 q.room) := hO2.out.cell 1
    have v4 : wc.cell? ⟨h2, 2, none⟩ = some (.slice sa4 q.spans.length sc4) := hO2.out.cell 2
    have x1 : wc.cell? ⟨g1, 1, none⟩ = some (.slice pa x.people.length pc) := hE6.out.cell (hX.out.cell 1)
    have y1 : wc.cell? ⟨g2, 1, none⟩ = some (.slice pa2 y.people.length pc2) := hE6.out.cell (hY.out.cell 1)
    have hsh := Lib.hid (rShared_calls _ _ x.people y.people wc (hpA.out.ext hE6.out) (hpB.out.ext hE6.out))
    have hsp1 := Lib.hid (hgs.out.ext hE6.out)
    have hsp2 := Lib.hid (hgs4.out.ext hE6.out)
    clear q2 q4 x2 y2 r0 r1 r2 s0 s1 s2 lg1 lg2 hC0 hC1 hC2 hb3 hb4 hX hY hO1 hO2 hE6
    by_cases h5 : o.room = q.room
    ·have h5' : (o.room == q.room) = true := by rw [beq_iff_eq]; exact h5
     have h5n : (o.room != q.room) = false := by rw [bne, h5']; rfl
     by_cases h6 : 0 ≤ o.room
     ·have h6' : decide (o.room < 0) = false := decide_eq_false (by omega)
      have Rc : Hid (clashT t (n : Int) (j : Int) m l = meetB o.spans q.spans) := by show _ = _; rw [R'.out]; unfold clashB; rw [decide_eq_true h5, decide_eq_true h6]; rfl
      obtain ⟨S, hs'⟩ : ∃ S, Hid (shareB x.people y.people = S) := ⟨_, rfl⟩
      clear h5
      go_wp2_with fail
      refine hsh.out.mono ?_
      rintro e w7 ⟨rfl, hx7⟩
      rw [hs'.out]
      have t1 := hx7.cell v1
      have t2 := hx7.cell v2
      have t3 := hx7.cell v3
      have t4 := hx7.cell v4
      clear v1 v2 v3 v4 x1 y1
      go_wp2_with fail
      refine (rCombine_calls 1 _ _ o.spans q.spans w7 (hsp1.out.ext hx7) (hsp2.out.ext hx7) hlx hly).mono ?_
      rintro e w8 ⟨v, rfl, hO8, hx8⟩
      obtain ⟨A8, C8, rfl⟩ := owns_form hO8
      go_wp2
      go_ret
      rw [Rc.out, ← R2.out]
      exact ⟨rfl, (hwd.out.trans hx7).trans hx8⟩
     ·have h6' : decide (o.room < 0) = true := decide_eq_true (by omega)
      cases hs : shareB x.people y.people with
      | true =>
       have Rc : Hid (clashT t (n : Int) (j : Int) m l = meetB o.spans q.spans) := by show _ = _; rw [R'.out]; simp [clashB, hs]
       have hs' := Lib.hid hs
       clear h5 hs
       go_wp2_with fail
       refine hsh.out.mono ?_
       rintro e w7 ⟨rfl, hx7⟩
       rw [hs'.out]
       have t1 := hx7.cell v1
       have t2 := hx7.cell v2
       have t3 := hx7.cell v3
       have t4 := hx7.cell v4
       clear v1 v2 v3 v4 x1 y1
       go_wp2_with fail
       refine (rCombine_calls 1 _ _ o.spans q.spans w7 (hsp1.out.ext hx7) (hsp2.out.ext hx7) hlx hly).mono ?_
       rintro e w8 ⟨v, rfl, hO8, hx8⟩
       obtain ⟨A8, C8, rfl⟩ := owns_form hO8
       go_wp2
       go_ret
       rw [Rc.out, ← R2.out]
       exact ⟨rfl, (hwd.out.trans hx7).trans hx8⟩
      | false =>
       have Rc : Hid (clashT t (n : Int) (j : Int) m l = false) := by show _ = _; rw [R'.out]; simp [clashB, hs, h6]
       have hs' := Lib.hid hs
       clear h5 hs
       go_wp2_with fail
       refine hsh.out.mono ?_
       rintro e w7 ⟨rfl, hx7⟩
       rw [hs'.out]
       have t1 := hx7.cell v1
       have t2 := hx7.cell v2
       have t3 := hx7.cell v3
       have t4 := hx7.cell v4
       clear v1 v2 v3 v4 x1 y1
       go_wp2
       go_ret
       rw [Rc.out]
       exact ⟨rfl, hwd.out.trans hx7⟩
    ·have h5' : (o.room == q.room) = false := by rw [beq_eq_false_iff_ne]; exact h5
     have h5n : (o.room != q.room) = true := by rw [bne, h5']; rfl
     cases hs : shareB x.people y.people with
     | true =>
      have Rc : Hid (clashT t (n : Int) (j : Int) m l = meetB o.spans q.spans) := by show _ = _; rw [R'.out]; simp [clashB, hs]
      have hs' := Lib.hid hs
      clear hs
      go_wp2_with fail
      refine hsh.out.mono ?_
      rintro e w7 ⟨rfl, hx7⟩
      rw [hs'.out]
      have t1 := hx7.cell v1
      have t2 := hx7.cell v2
      have t3 := hx7.cell v3
      have t4 := hx7.cell v4
      clear v1 v2 v3 v4 x1 y1
      go_wp2_with fail
      refine (rCombine_calls 1 _ _ o.spans q.spans w7 (hsp1.out.ext hx7) (hsp2.out.ext hx7) hlx hly).mono ?_
      rintro e w8 ⟨v, rfl, hO8, hx8⟩
      obtain ⟨A8, C8, rfl⟩ := owns_form hO8
      go_wp2
      go_ret
      rw [Rc.out, ← R2.out]
      exact ⟨rfl, (hwd.out.trans hx7).trans hx8⟩
     | false =>
      have Rc : Hid (clashT t (n : Int) (j : Int) m l = false) := by show _ = _; rw [R'.out]; simp [clashB, hs, h5]
      have hs' := Lib.hid hs
      clear hs
      go_wp2_with fail
      refine hsh.out.mono ?_
      rintro e w7 ⟨rfl, hx7⟩
      rw [hs'.out]
      have t1 := hx7.cell v1
      have t2 := hx7.cell v2
      have t3 := hx7.cell v3
      have t4 := hx7.cell v4
      clear v1 v2 v3 v4 x1 y1
      go_wp2
      go_ret
      rw [Rc.out]
      exact ⟨rfl, hwd.out.trans hx7⟩
end Go.Proofs.YtjglidlmpjmjeaaGreatDoor
