/- Walk of endless.Valid on streams as the laws make them. -/
import Derived.Test.YtepcdhpikpmepaaGreatTMQ
import Derived.Test.YtepcdhpikpmepaaGreatHEQ
namespace Go.Proofs.YtepcdhpikpmepaaGreat
open Go.RowKit
attribute [local go_sem] Oper.semAt_some

theorem order_calls2 (x y : InstD) (W : World) : Calls Tryz.prog 56 #[.agg #[.int .i64 x.1, .int .i64 x.2.1, .int .i64 x.2.2], .agg #[.int .i64 y.1, .int .i64 y.2.1, .int .i64 y.2.2]] W fun e w' => e = .returned (.int .i64 (ordI x y)) ∧ Ext W w' := by
 refine (order_calls_in x y W).mono ?_
 rintro e w' ⟨rfl, q, os, rfl⟩
 refine ⟨rfl, rfl, rfl, rfl, ?_, fun k hk => ?_⟩
 ·show W.heap.size ≤ (W.heap ++ os).size
  rw [Array.size_append]
  exact Nat.le_add_right _ _
 ·show (W.heap ++ os)[k]? = _
  exact Array.getElem?_append_left hk
theorem in_true {x a b : Int} (h1 : a ≤ x) (h2 : x ≤ b) (w : World) : Calls Tryz.prog 71 #[.int .i64 x, .int .i64 a, .int .i64 b] w fun e w' => e = .returned (.bool true) ∧ Ext w w' := by
 have := in_calls x a b w
 rwa [decide_eq_true h1, decide_eq_true h2] at this
set_option maxHeartbeats 6400000 in
set_option maxRecDepth 100000 in
theorem endValid_calls (v : Value) (s : StreamD) (w : World) (h : StreamV w v s) (hok : StreamOk s) :
  Calls Tryz.prog 51 #[v] w fun e w' => e = .returned (.bool true) ∧ Ext w w' := by
 obtain ⟨cv, ev, rfl, hc, he⟩ := h
 have hC := Lib.hid hc
 have hE := Lib.hid he
 have hok' := Lib.hid hok
 obtain ⟨ca, cc, rfl, _, _, cat⟩ := hc.open
 obtain ⟨ea, ec, rfl, _, _, eat⟩ := he.open
 have cat' := Lib.hid cat
 have eat' := Lib.hid eat
 obtain ⟨n1, hn1⟩ : ∃ n, Hid (s.classes.length = n) := ⟨_, rfl⟩
 obtain ⟨n2, hn2⟩ : ∃ n, Hid (s.extra.length = n) := ⟨_, rfl⟩
 obtain ⟨len, hlen⟩ : ∃ n, Hid (s.len = n) := ⟨_, rfl⟩
 have b1 : n1 ≤ 1 := hn1.out ▸ hok.few
 have b2 : n2 ≤ 40 := hn2.out ▸ hok.extra
 have hl0 : 1 ≤ len := hlen.out ▸ hok.len0
 have hl1 : len ≤ 10080 := hlen.out ▸ hok.len1
 rw [hn1.out, hn2.out, hlen.out]
 have hin := Lib.hid (in_true hl0 hl1)
 have d1 : decide (64 < (n1 : Int)) = false := decide_eq_false (by omega)
 have d2 : decide (4096 < (n2 : Int)) = false := decide_eq_false (by omega)
 clear hc he cat eat hok hl0 hl1
 go_enter Tryz.func51, Tryz.ntmps51
 go_wp2_with fail
 refine (hin.out _).mono ?_
 rintro e w1 ⟨rfl, hx1⟩
 have hB : Hid (Blk w1 w.heap.size 50 #[.slice ca n1 cc, .int .i64 len, .slice ea n2 ec]) := Lib.hid ((Keep.of_ext (X := fun _ => False) hx1).blk (blk_new' rfl rfl) id)
 have hE1 := Lib.hid (show Ext w w1 from Ext.trans (by exact (by with_reducible repeat' (first | exact Ext.refl _ | assumption | refine Ext.drewN ?_ _ | refine Ext.drew ?_ | refine Ext.alloc ?_ _ | refine Ext.trans ?_ (by with_reducible assumption)))) hx1)
 have c0 : w1.cell? ⟨w.heap.size, 0, none⟩ = some (.slice ca n1 cc) := hB.out.cell 0
 have c2 : w1.cell? ⟨w.heap.size, 2, none⟩ = some (.slice ea n2 ec) := hB.out.cell 2
 have l0 := hB.out.lt
 clear hx1 hin d1
 go_wp2_with fail
 clear c0 c2 l0 d2
 go_loopw [3, 4, 27] (fun _ _ vi wr => ∃ i : Nat, i ≤ n1 ∧ vi = .int .i64 i ∧ Hid (Ext w wr) ∧ Hid (Blk wr w.heap.size 50 #[.slice ca n1 cc, .int .i64 len, .slice ea n2 ec])) (fun _ _ vi _ => n1 - (intOf vi).toNat)
 case atStart => exact ⟨0, by omega, rfl, hE1, hB⟩
 case round =>
  clear hE1 hB
  obtain ⟨i, hi, rfl, hx, hB⟩ := hrel
  by_cases h1 : i < n1
  ·obtain rfl : i = 0 := by omega
   obtain ⟨b, off, x, ta, tc, rfl, hb, ex, g0, g1, gT⟩ := cat'.out 0 (by rw [hn1.out]; exact h1) wr hx.out
   obtain ⟨hpo, hm0, hm1⟩ := hok'.out.cls x (List.mem_of_getElem? ex.out)
   obtain ⟨m, hm⟩ : ∃ m, Hid (x.minute = m) := ⟨_, rfl⟩
   rw [hm.out] at g1 hm0 hm1
   have hT := Lib.hid gT
   have hmv : Hid (∀ W, Ext wr W → Calls Tryz.prog 72 #[.agg #[.slice ta 1 tc]] W fun e w' => e = .returned (.bool true) ∧ Ext W w') := Lib.hid fun W hW => mixedValid_calls _ x.days W (hT.out.ext hW) hpo
   have hin2 : Hid (∀ W, Calls Tryz.prog 71 #[.int .i64 m, .int .i64 (-4320), .int .i64 4320] W fun e w' => e = .returned (.bool true) ∧ Ext W w') := Lib.hid fun W => in_true (by omega) (by omega) W
   simp only [Nat.zero_mul, Nat.add_zero] at g0 g1
   clear gT hpo hm0 hm1 ex
   go_upto_region 6 with (fail)
   refine wp_abs (S := fun W => Hid (Ext wr W) ∧ Hid (Blk W wr.heap.size 113 #[.slice ta 1 tc, .int .i64 m])) ?_ ?_
   ·exact ⟨Lib.hid (by exact (by with_reducible repeat' (first | exact Ext.refl _ | assumption | refine Ext.drewN ?_ _ | refine Ext.drew ?_ | refine Ext.alloc ?_ _ | refine Ext.trans ?_ (by with_reducible assumption)))), Lib.hid (blk_new' rfl rfl)⟩
   rintro W1 ⟨hx2, hK⟩
   have z0 := After.cell (show W1.cell? ⟨wr.heap.size, 0, none⟩ = some (.slice ta 1 tc) from hK.out.cell 0)
   have z1 := After.cell (show W1.cell? ⟨wr.heap.size, 1, none⟩ = some (.int .i64 m) from hK.out.cell 1)
   have hmv2 := Lib.hid fun W (x : Ext W1 W) => hmv.out W (hx2.out.trans x)
   clear g0 g1 hmv hT
   refine wp_region_after (by kernel_rfl) (by kernel_rfl) ?_
   repeat (go_big_quiet_step (first | (with_reducible exact After.call _ (hmv2.out _ (After.ext _))) | (with_reducible exact After.call _ (hin2.out _))))
   refine wpQuiet_nil ?_
   rintro _ ⟨u, rfl⟩
   have hx3 := Lib.hid (hx.out.trans (hx2.out.trans u.ext))
   have hB3 := Lib.hid ((Keep.of_ext (X := fun _ => False) (hx2.out.trans u.ext)).blk hB.out id)
   generalize u.world = V at hx3 hB3 ⊢
   clear z0 z1 hmv2 hin2 hx2 hK hx hB
   go_wp2
   go_roundw
   case rel => exact ⟨1, by omega, by go_num, hx3, hB3⟩
   case measure => simp [intOf]; omega
  ·have c2 : wr.cell? ⟨w.heap.size, 2, none⟩ = some (.slice ea n2 ec) := hB.out.cell 2
   have l0 := hB.out.lt
   obtain ⟨wA, hwA⟩ : ∃ wA, Hid (wr = wA) := ⟨_, rfl⟩
   rw [hwA.out] at hx hB c2 l0 ⊢
   clear hwA
   go_wp2_with fail
   clear c2 l0
   go_loopw [5, 6, 7, 62] (fun _ _ _ vi wr => ∃ i : Nat, i ≤ n2 ∧ vi = .int .i64 i ∧ Hid (Ext w wr) ∧ Hid (Blk wr w.heap.size 50 #[.slice ca n1 cc, .int .i64 len, .slice ea n2 ec])) (fun _ _ _ vi _ => n2 - (intOf vi).toNat)
   case atStart => exact ⟨0, by omega, rfl, hx, hB⟩
   case round =>
    clear hx hB h1 hi
    obtain ⟨k, hk, rfl, hx, hB⟩ := hrel
    rename World => wq
    by_cases h2 : k < n2
    ·obtain ⟨b, off, d, f, t, rfl, hb, _, ex, g0, g1, g2⟩ := eat'.out k (by rw [hn2.out]; exact h2) wq hx.out
     obtain ⟨o0, o1, o2, o3, o4, o5⟩ := hok'.out.each (d, f, t) (List.mem_of_getElem? ex.out)
     dsimp only at o0 o1 o2 o3 o4 o5
     have w1' : wrap64 (f + 1) = f + 1 := by unfold wrap64; omega
     have w2' : wrap64 (f + 10080) = f + 10080 := by unfold wrap64; omega
     have i1 : Hid (∀ W, Calls Tryz.prog 71 #[.int .i64 d, .int .i64 0, .int .i64 1099511627776] W fun e w' => e = .returned (.bool true) ∧ Ext W w') := Lib.hid fun W => in_true (by omega) (by omega) W
     have i2 : Hid (∀ W, Calls Tryz.prog 71 #[.int .i64 f, .int .i64 (-2251799813685248), .int .i64 1583296743997439] W fun e w' => e = .returned (.bool true) ∧ Ext W w') := Lib.hid fun W => in_true (by omega) (by omega) W
     have i3 : Hid (∀ W, Calls Tryz.prog 71 #[.int .i64 t, .int .i64 (f + 1), .int .i64 (f + 10080)] W fun e w' => e = .returned (.bool true) ∧ Ext W w') := Lib.hid fun W => in_true (by omega) (by omega) W
     clear o0 o1 o2 o3 o4 o5
     go_upto_region 12 with (fail)
     refine wp_abs (S := fun W => Hid (Ext wq W) ∧ Hid (Blk W wq.heap.size 105 #[.int .i64 d, .int .i64 f, .int .i64 t])) ?_ ?_
     ·exact ⟨Lib.hid (by exact (by with_reducible repeat' (first | exact Ext.refl _ | assumption | refine Ext.drewN ?_ _ | refine Ext.drew ?_ | refine Ext.alloc ?_ _ | refine Ext.trans ?_ (by with_reducible assumption)))), Lib.hid (blk_new' rfl rfl)⟩
     rintro W1 ⟨hx2, hI⟩
     have z0 := After.cell (show W1.cell? ⟨wq.heap.size, 0, none⟩ = some (.int .i64 d) from hI.out.cell 0)
     have z1 := After.cell (show W1.cell? ⟨wq.heap.size, 1, none⟩ = some (.int .i64 f) from hI.out.cell 1)
     have z2 := After.cell (show W1.cell? ⟨wq.heap.size, 2, none⟩ = some (.int .i64 t) from hI.out.cell 2)
     clear g0 g1 g2
     refine wp_region_after0 ?_
     repeat (go_big_quiet_step (first | (with_reducible exact After.call _ (i1.out _)) | (with_reducible exact After.call _ (i2.out _)) | (with_reducible exact After.call _ (i3.out _))))
     refine wpQuiet_nil ?_
     rintro _ ⟨u, rfl⟩
     have hx3 := Lib.hid (hx2.out.trans u.ext)
     have hI3 := Lib.hid ((Keep.of_ext (X := fun _ => False) u.ext).blk hI.out id)
     have hB3 := Lib.hid ((Keep.of_ext (X := fun _ => False) hx3.out).blk hB.out id)
     have hx4 := Lib.hid (hx.out.trans hx3.out)
     generalize u.world = V at hx3 hI3 hB3 hx4 ⊢
     clear z0 z1 z2 i1 i2 i3 hx2 hI hB w1' w2' hb
     by_cases k0 : k = 0
     ·subst k0
      go_wp2_with fail
      refine wp_region_after (by kernel_rfl) (by kernel_rfl) ?_
      repeat (go_big_quiet_step (fail))
      refine wpQuiet_nil ?_
      rintro _ ⟨u2, rfl⟩
      have hx5 := Lib.hid (hx4.out.trans u2.ext)
      have hB5 := Lib.hid ((Keep.of_ext (X := fun _ => False) u2.ext).blk hB3.out id)
      generalize u2.world = V2 at hx5 hB5 ⊢
      clear hx4 hB3 hI3 hx3 hx
      go_wp2
      go_roundw
      case rel => exact ⟨0 + 1, by omega, by go_num, hx5, hB5⟩
      case measure => simp [intOf]; omega
     ·obtain ⟨b2', off2, d2', f2', t2', e2, hb2, _, ey, y0, y1, y2⟩ := eat'.out (k - 1) (by rw [hn2.out]; omega) V hx4.out
      cases e2
      have hlt : ltI (d2', f2', t2') (d, f, t) := by
       have hp := List.pairwise_iff_getElem.1 hok'.out.order (k - 1) k (by rw [hn2.out]; omega) (by rw [hn2.out]; omega) (by omega)
       obtain ⟨q1, e1⟩ := List.getElem?_eq_some_iff.1 ey.out
       obtain ⟨q2, e2⟩ := List.getElem?_eq_some_iff.1 ex.out
       rwa [e1, e2] at hp
      obtain ⟨r, hr⟩ : ∃ r, Hid (ordI (d2', f2', t2') (d, f, t) = r) := ⟨_, rfl⟩
      have hr0 : r < 0 := by rw [← hr.out]; exact (ordI_lt _ _).2 hlt
      have hord : Hid (∀ W, Calls Tryz.prog 56 #[.agg #[.int .i64 d2', .int .i64 f2', .int .i64 t2'], .agg #[.int .i64 d, .int .i64 f, .int .i64 t]] W fun e w' => e = .returned (.int .i64 r) ∧ Ext W w') := Lib.hid fun W => by
       have := order_calls2 (d2', f2', t2') (d, f, t) W
       rw [hr.out] at this
       exact this
      have dr : decide (0 ≤ r) = false := decide_eq_false (by omega)
      have dk : decide (0 < k) = true := decide_eq_true (by omega)
      have z0 := After.cell (show V.cell? ⟨wq.heap.size, 0, none⟩ = some (.int .i64 d) from hI3.out.cell 0)
      have z1 := After.cell (show V.cell? ⟨wq.heap.size, 1, none⟩ = some (.int .i64 f) from hI3.out.cell 1)
      have z2 := After.cell (show V.cell? ⟨wq.heap.size, 2, none⟩ = some (.int .i64 t) from hI3.out.cell 2)
      have z3 := After.cell y0
      have z4 := After.cell y1
      have z5 := After.cell y2
      have z6 := After.cell (show V.cell? ⟨w.heap.size, 2, none⟩ = some (.slice (some ⟨b, off, none⟩) n2 ec) from hB3.out.cell 2)
      clear y0 y1 y2 hlt hr0 hr ey
      go_wp2_with fail
      refine wp_region_after (by kernel_rfl) (by kernel_rfl) ?_
      repeat (go_big_quiet_step (with_reducible exact After.call _ (hord.out _)))
      clear z0 z1 z2 z3 z4 z5 z6 hord
      refine wpQuiet_nil ?_
      rintro _ ⟨u2, rfl⟩
      have hx5 := Lib.hid (hx4.out.trans u2.ext)
      have hB5 := Lib.hid ((Keep.of_ext (X := fun _ => False) u2.ext).blk hB3.out id)
      generalize u2.world = V2 at hx5 hB5 ⊢
      clear hx4 hB3 hI3 hx3 hx
      go_wp2
      go_roundw
      case rel => exact ⟨k + 1, by omega, by go_num, hx5, hB5⟩
      case measure => simp [intOf]; omega
    ·go_wp2
     go_ret
     exact ⟨rfl, hx.out⟩
end Go.Proofs.YtepcdhpikpmepaaGreat
