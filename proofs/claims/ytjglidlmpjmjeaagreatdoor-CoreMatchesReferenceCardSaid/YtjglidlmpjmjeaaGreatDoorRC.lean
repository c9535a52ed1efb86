/- Walks of the reference of plans: Valid, shared, within. -/
import Derived.Test.YtjglidlmpjmjeaaGreatDoorRB
import Derived.Deep.Cut
namespace Go.Proofs.YtjglidlmpjmjeaaGreatDoor
open Go.RowKit

set_option maxHeartbeats 3200000 in
theorem rValid_calls (wv : Value) (t : List WishD) (w : World) (h : Wishes w wv t) :
  Calls Tryz.prog 29 #[.agg #[wv]] w fun e w' => e = .returned (.int .i64 (validT t)) ∧ Ext w w' := by
 have hT := Lib.hid h
 obtain ⟨a, c, rfl, hn, hc, hat⟩ := h.open
 clear h
 cases hb : tooLargeB t with
 | true =>
  have R : Hid (validT t = 2) := by show _ = _; simp [validT, hb]
  have hb' := Lib.hid hb
  clear hb
  go_enter Tryz.func29, Tryz.ntmps29
  go_wp2_with fail
  refine (rTooLarge_calls _ t _ (hT.out.ext (by with_reducible repeat' (first | exact Ext.refl _ | assumption | refine Ext.drewN ?_ _ | refine Ext.drew ?_ | refine Ext.alloc ?_ _ | refine Ext.trans ?_ (by with_reducible assumption))))).mono ?_
  rintro e w1 ⟨rfl, hx1⟩
  rw [hb'.out]
  go_wp2
  go_ret
  rw [R.out]
  exact ⟨rfl, ((Ext.refl _).alloc _).trans hx1⟩
 | false =>
  have R0 : Hid (validT t = if wishesB none t && decide (0 < t.length) then 0 else 1) := by show _ = _; simp [validT, hb]
  have hb' := Lib.hid hb
  clear hb
  go_enter Tryz.func29, Tryz.ntmps29
  go_wp2_with fail
  refine (rTooLarge_calls _ t _ (hT.out.ext (by with_reducible repeat' (first | exact Ext.refl _ | assumption | refine Ext.drewN ?_ _ | refine Ext.drew ?_ | refine Ext.alloc ?_ _ | refine Ext.trans ?_ (by with_reducible assumption))))).mono ?_
  rintro e w1 ⟨rfl, hx1⟩
  rw [hb'.out]
  have c0 : w1.cell? ⟨w.heap.size, 0, none⟩ = some (.slice a t.length c) := hx1.cell (by simp)
  have hxw := Lib.hid (((Ext.refl w).alloc (.cells #[.slice a t.length c] 27)).trans hx1)
  clear hx1
  go_wp2_with fail
  go_loopw [4] (fun vi wr => ∃ i : Nat, i ≤ t.length ∧ vi = .int .i64 i ∧ Hid (Ext w1 wr) ∧ Hid (wishesB none t = wishesB (prevM t i) (t.drop i))) (fun vi _ => t.length - (intOf vi).toNat)
  case atStart => exact ⟨0, by omega, rfl, Lib.hid (Ext.refl _), rfl⟩
  case round =>
   obtain ⟨i, hi, rfl, hx, hF⟩ := hrel
   have d0 := hx.out.cell c0
   have hxr := Lib.hid (hxw.out.trans hx.out)
   by_cases h1 : i < t.length
   ·obtain ⟨b1, o1, x, pa, pc, oa, oc, rfl, hb1, dx, ex, g1, g2, g3, gp, go⟩ := hat i h1 wr hxr.out
    have hB : w.heap.size < wr.heap.size := World.block_lt_of_cell? _ _ d0
    have prev : i = 0 ∨ ∃ (o0 : Nat) (x0 : WishD), 0 < i ∧ o0 = o1 + (i - 1) * 3 ∧ Hid (prevM t i = some x0.meeting) ∧ wr.cell? ⟨b1, o0, none⟩ = some (.int .i64 x0.meeting) := by
     by_cases h4 : i = 0
     ·exact Or.inl h4
     ·obtain ⟨b2, o2, x0, _, _, _, _, e2, _, _, ex0, g4, _⟩ := hat (i - 1) (by omega) wr hxr.out
      cases e2
      exact Or.inr ⟨_, x0, by omega, rfl, prevM_pos (by omega) ex0.out, g4⟩
    clear hat
    have hv := Lib.hid (rValidWish_calls _ x wr ⟨_, _, rfl, gp, go⟩)
    clear gp go
    go_wp2_with fail
    refine hv.out.mono ?_
    rintro e w2 ⟨rfl, hx2⟩
    have k0 := hx2.cell d0
    have k1 := hx2.cell g1
    have hxn := Lib.hid (hx.out.trans hx2)
    have hxm := Lib.hid (hxr.out.trans hx2)
    have hx2' := Lib.hid hx2
    clear d0 hv g1 g2 g3 hx2
    cases hok : wishOkB x with
    | false =>
     have R : Hid (validT t = 1) := by show _ = _; rw [R0.out, hF.out, wishesB_bad dx.out hok]; rfl
     clear hok hF prev
     go_wp2_with fail
     go_quiet (fail)
     go_wp2
     go_ret
     rw [R.out]
     exact ⟨rfl, hxm.out.drewN _⟩
    | true =>
     rcases prev with h4 | ⟨o0, x0, hpos, ho0, hpm, g4⟩
     ·have R : Hid (wishesB none t = wishesB (prevM t (i + 1)) (t.drop (i + 1))) := by
       show _ = _
       rw [hF.out, prevM_succ ex.out, h4, prevM_zero, wishesB_step0 (by have := dx.out; rwa [h4] at this) hok]
      have hd3 : decide (0 < i) = false := by simp; omega
      clear hok hF h4
      go_wp2_with fail
      go_quiet (fail)
      go_wp2
      go_roundw
      case rel => exact ⟨i + 1, by omega, by go_num, Lib.hid (hxn.out.drewN _), R⟩
      case measure => simp [intOf]; omega
     ·have hd3 : decide (0 < i) = true := by simp; omega
      have hi1 : 1 ≤ i := by omega
      have hi2 : (1 : Int) ≤ (i : Int) := by omega
      have hi3 : (i : Int) - 1 < (t.length : Int) := by omega
      subst ho0
      have g4' := hx2'.out.cell g4
      clear g4
      by_cases h5 : x.meeting ≤ x0.meeting
      ·have R : Hid (validT t = 1) := by show _ = _; rw [R0.out, hF.out, hpm.out, wishesB_near dx.out h5]; rfl
       have hd4 : decide (x.meeting ≤ x0.meeting) = true := by simpa using h5
       clear hok hF
       go_wp2_with fail
       go_quiet (fail)
       go_wp2
       go_ret
       rw [R.out]
       exact ⟨rfl, hxm.out.drewN _⟩
      ·have R : Hid (wishesB none t = wishesB (prevM t (i + 1)) (t.drop (i + 1))) := by
        show _ = _
        rw [hF.out, prevM_succ ex.out, hpm.out, wishesB_step dx.out hok (by omega)]
       have hd4 : decide (x.meeting ≤ x0.meeting) = false := by simpa using h5
       clear hok hF
       go_wp2_with fail
       go_quiet (fail)
       go_wp2
       go_roundw
       case rel => exact ⟨i + 1, by omega, by go_num, Lib.hid (hxn.out.drewN _), R⟩
       case measure => simp [intOf]; omega
   ·have hW : wishesB none t = true := by rw [hF.out, List.drop_of_length_le (by omega)]; cases prevM t i <;> rfl
    by_cases h0 : t.length = 0
    ·have R : Hid (validT t = 1) := by show _ = _; rw [R0.out, hW, show decide (0 < t.length) = false from decide_eq_false (by omega)]; rfl
     have hz : ((t.length : Int) == 0) = true := by rw [beq_iff_eq]; omega
     clear hW hF hat h0
     go_wp2
     go_ret
     rw [R.out]
     exact ⟨rfl, hxr.out⟩
    ·have R : Hid (validT t = 0) := by show _ = _; rw [R0.out, hW, show decide (0 < t.length) = true from decide_eq_true (by omega)]; rfl
     have hz : ((t.length : Int) == 0) = false := by rw [beq_eq_false_iff_ne]; omega
     clear hW hF hat
     go_wp2
     go_ret
     rw [R.out]
     exact ⟨rfl, hxr.out⟩

/-! ### shared -/
theorem shareB_eq (a b : List Int) : shareB a b = a.any fun x => b.any fun y => x == y := by
 unfold shareB
 congr 1
 funext x
 rw [List.contains_eq_any_beq]
set_option maxHeartbeats 1600000 in
theorem rShared_calls (va vb : Value) (a b : List Int) (w : World) (ha : Ints w va a) (hb : Ints w vb b) :
  Calls Tryz.prog 87 #[va, vb] w fun e w' => e = .returned (.bool (shareB a b)) ∧ Ext w w' := by
 obtain ⟨aa, ac, rfl, han, hac, aat⟩ := ha.open
 obtain ⟨ba, bc, rfl, hbn, hbc, bat⟩ := hb.open
 clear ha hb
 have R0 : Hid (shareB a b = a.any fun x => b.any fun y => x == y) := shareB_eq a b
 go_enter Tryz.func87, Tryz.ntmps87
 go_wp2_with fail
 go_loopw [5] (fun vi wr => ∃ i : Nat, i ≤ a.length ∧ vi = .int .i64 i ∧ Hid (Ext w wr) ∧ Hid ((a.any fun x => b.any fun y => x == y) = (a.drop i).any fun x => b.any fun y => x == y)) (fun vi _ => a.length - (intOf vi).toNat)
 case atStart => exact ⟨0, by omega, rfl, Lib.hid (Ext.refl _), rfl⟩
 case round =>
  obtain ⟨i, hi, rfl, hx, hF⟩ := hrel
  by_cases h1 : i < a.length
  ·obtain ⟨w0, hw0⟩ : ∃ w0 : World, Hid (wr = w0) := ⟨_, rfl⟩
   obtain ⟨b1, o1, x, rfl, hb1, dx, ex, g0⟩ := aat i h1 w (Ext.refl _)
   clear aat
   go_wp2_with fail
   rw [hw0.out] at hx
   rw [hw0.out]
   clear hw0
   go_loopw [6] (fun vk wk => ∃ k : Nat, k ≤ b.length ∧ vk = .int .i64 k ∧ Hid (Ext w0 wk) ∧ Hid ((b.any fun y => x == y) = (b.drop k).any fun y => x == y)) (fun vk _ => b.length - (intOf vk).toNat)
   case atStart => exact ⟨0, by omega, rfl, Lib.hid (Ext.refl _), rfl⟩
   case round =>
    obtain ⟨k, hk, rfl, hx3, hG⟩ := hrel
    have hxr := Lib.hid (hx.out.trans hx3.out)
    have e0 := hxr.out.cell g0
    by_cases q1 : k < b.length
    ·obtain ⟨b2, o2, y, rfl, hb2, dy, ey, k0⟩ := bat k q1 wr hxr.out
     clear bat
     by_cases q2 : x = y
     ·have hE : (x == y) = true := by rw [beq_iff_eq]; exact q2
      have R : Hid (shareB a b = true) := by
       show _ = _
       rw [R0.out, hF.out, any_step dx.out, hG.out, any_step dy.out, hE]
       rfl
      clear hF hG q2
      go_wp2_with fail
      go_quiet (fail)
      go_wp2
      go_ret
      rw [R.out]
      exact ⟨rfl, hxr.out.drewN _⟩
     ·have hE : (x == y) = false := by rw [beq_eq_false_iff_ne]; exact q2
      have R : Hid ((b.any fun y => x == y) = (b.drop (k + 1)).any fun y => x == y) := by
       show _ = _
       rw [hG.out, any_step dy.out, hE]
       rfl
      clear hF hG q2
      go_wp2_with fail
      go_quiet (fail)
      go_wp2
      go_roundw
      case rel => exact ⟨k + 1, by omega, by go_num, Lib.hid (hx3.out.drewN _), R⟩
      case measure => simp [intOf]; omega
    ·have R : Hid ((a.any fun x => b.any fun y => x == y) = (a.drop (i + 1)).any fun x => b.any fun y => x == y) := by
      show _ = _
      rw [hF.out, any_step dx.out, hG.out, any_end (by omega)]
      rfl
     clear hF hG bat e0
     go_wp2
     go_roundw
     case rel => exact ⟨i + 1, by omega, by go_num, hxr, R⟩
     case measure => simp [intOf]; omega
  ·have R : Hid (shareB a b = false) := by show _ = _; rw [R0.out, hF.out, any_end (by omega)]
   clear hF aat bat
   go_wp2
   go_ret
   rw [R.out]
   exact ⟨rfl, hx.out⟩

/-! ### within -/
def withinB (t : List WishD) (a i : Int) : Bool := idxB a t.length && idxB i (t[a.toNat]?.getD default).opts.length
set_option maxHeartbeats 1600000 in
theorem rWithin_calls (wv : Value) (t : List WishD) (a i : Int) (w : World) (h : Wishes w wv t) :
  Calls Tryz.prog 86 #[.agg #[wv], .agg #[.int .i64 a, .int .i64 i]] w fun e w' => e = .returned (.bool (withinB t a i)) ∧ Ext w w' := by
 obtain ⟨ta, tc, rfl, hn, hc, hat⟩ := h.open
 clear h
 by_cases h1 : a < 0
 ·have R : Hid (withinB t a i = false) := by show _ = _; simp only [withinB, idxB]; rw [show decide (0 ≤ a) = false from decide_eq_false (by omega)]; rfl
  have d1 : decide (a < 0) = true := decide_eq_true h1
  go_enter Tryz.func86, Tryz.ntmps86
  go_wp2
  go_ret
  rw [R.out]
  exact ⟨rfl, (by with_reducible repeat' (first | exact Ext.refl _ | assumption | refine Ext.drewN ?_ _ | refine Ext.drew ?_ | refine Ext.alloc ?_ _ | refine Ext.trans ?_ (by with_reducible assumption)))⟩
 ·have d1 : decide (a < 0) = false := decide_eq_false h1
  by_cases h2 : (t.length : Int) ≤ a
  ·have R : Hid (withinB t a i = false) := by show _ = _; simp only [withinB, idxB]; rw [show decide (a < (t.length : Int)) = false from decide_eq_false (by omega)]; simp
   have d2 : decide ((t.length : Int) ≤ a) = true := decide_eq_true h2
   go_enter Tryz.func86, Tryz.ntmps86
   go_wp2
   go_ret
   rw [R.out]
   exact ⟨rfl, (by with_reducible repeat' (first | exact Ext.refl _ | assumption | refine Ext.drewN ?_ _ | refine Ext.drew ?_ | refine Ext.alloc ?_ _ | refine Ext.trans ?_ (by with_reducible assumption)))⟩
  ·obtain ⟨n, rfl⟩ : ∃ n : Nat, a = n := ⟨a.toNat, by omega⟩
   have hn' : n < t.length := by omega
   have d2 : decide (t.length ≤ n) = false := decide_eq_false (by omega)
   obtain ⟨b1, o1, x, pa, pc, oa, oc, rfl, hb1, dx, ex, g0, g1, g2, gp, go⟩ := hat n hn' w (Ext.refl _)
   have R0 : Hid (withinB t (n : Int) i = idxB i x.opts.length) := by
    show _ = _
    simp only [withinB, Int.toNat_natCast, ex.out, Option.getD_some]
    rw [idxB_of_lt hn']
    rfl
   clear gp go hat h1 h2
   by_cases h3 : 0 ≤ i
   ·have d3 : decide (0 ≤ i) = true := decide_eq_true h3
    by_cases h4 : i < (x.opts.length : Int)
    ·have d4 : decide (i < (x.opts.length : Int)) = true := decide_eq_true h4
     have R : Hid (withinB t (n : Int) i = true) := by show _ = _; rw [R0.out, idxB, d3, d4]; rfl
     go_enter Tryz.func86, Tryz.ntmps86
     go_upto_region 3 with (fail)
     refine wp_abs (S := fun W => Ext w W ∧ W.cell? ⟨w.heap.size, 0, none⟩ = some (.slice (some ⟨b1, o1, none⟩) t.length tc) ∧ W.cell? ⟨w.heap.size + 1, 0, none⟩ = some (.int .i64 n) ∧ W.cell? ⟨w.heap.size + 1, 1, none⟩ = some (.int .i64 i)) ⟨by exact (by with_reducible repeat' (first | exact Ext.refl _ | assumption | refine Ext.drewN ?_ _ | refine Ext.drew ?_ | refine Ext.alloc ?_ _ | refine Ext.trans ?_ (by with_reducible assumption))), by simp, by simp, by simp⟩ ?_
     rintro W ⟨hW, c0, c1, c2⟩
     have z0 := After.cell c0
     have z1 := After.cell c1
     have z2 := After.cell c2
     have z3 := After.cell (hW.cell g2)
     clear c0 c1 c2 g0 g1 g2
     refine wp_region_after (by kernel_rfl) (by kernel_rfl) ?_
     repeat (go_big_quiet_step (fail))
     refine wpQuiet_nil ?_
     rintro _ ⟨y, rfl⟩
     go_wp2
     go_ret
     rw [R.out]
     exact ⟨rfl, hW.trans y.ext⟩
    ·have d4 : decide (i < (x.opts.length : Int)) = false := decide_eq_false h4
     have R : Hid (withinB t (n : Int) i = false) := by show _ = _; rw [R0.out, idxB, d3, d4]; rfl
     go_enter Tryz.func86, Tryz.ntmps86
     go_upto_region 3 with (fail)
     refine wp_abs (S := fun W => Ext w W ∧ W.cell? ⟨w.heap.size, 0, none⟩ = some (.slice (some ⟨b1, o1, none⟩) t.length tc) ∧ W.cell? ⟨w.heap.size + 1, 0, none⟩ = some (.int .i64 n) ∧ W.cell? ⟨w.heap.size + 1, 1, none⟩ = some (.int .i64 i)) ⟨by exact (by with_reducible repeat' (first | exact Ext.refl _ | assumption | refine Ext.drewN ?_ _ | refine Ext.drew ?_ | refine Ext.alloc ?_ _ | refine Ext.trans ?_ (by with_reducible assumption))), by simp, by simp, by simp⟩ ?_
     rintro W ⟨hW, c0, c1, c2⟩
     have z0 := After.cell c0
     have z1 := After.cell c1
     have z2 := After.cell c2
     have z3 := After.cell (hW.cell g2)
     clear c0 c1 c2 g0 g1 g2
     refine wp_region_after (by kernel_rfl) (by kernel_rfl) ?_
     repeat (go_big_quiet_step (fail))
     refine wpQuiet_nil ?_
     rintro _ ⟨y, rfl⟩
     go_wp2
     go_ret
     rw [R.out]
     exact ⟨rfl, hW.trans y.ext⟩
   ·have d3 : decide (0 ≤ i) = false := decide_eq_false h3
    have R : Hid (withinB t (n : Int) i = false) := by show _ = _; rw [R0.out, idxB, d3]; rfl
    go_enter Tryz.func86, Tryz.ntmps86
    go_upto_region 3 with (fail)
    refine wp_abs (S := fun W => Ext w W ∧ W.cell? ⟨w.heap.size, 0, none⟩ = some (.slice (some ⟨b1, o1, none⟩) t.length tc) ∧ W.cell? ⟨w.heap.size + 1, 0, none⟩ = some (.int .i64 n) ∧ W.cell? ⟨w.heap.size + 1, 1, none⟩ = some (.int .i64 i)) ⟨by exact (by with_reducible repeat' (first | exact Ext.refl _ | assumption | refine Ext.drewN ?_ _ | refine Ext.drew ?_ | refine Ext.alloc ?_ _ | refine Ext.trans ?_ (by with_reducible assumption))), by simp, by simp, by simp⟩ ?_
    rintro W ⟨hW, c0, c1, c2⟩
    have z0 := After.cell c0
    have z1 := After.cell c1
    have z2 := After.cell c2
    have z3 := After.cell (hW.cell g2)
    clear c0 c1 c2 g0 g1 g2
    refine wp_region_after (by kernel_rfl) (by kernel_rfl) ?_
    repeat (go_big_quiet_step (fail))
    refine wpQuiet_nil ?_
    rintro _ ⟨y, rfl⟩
    go_wp2
    go_ret
    rw [R.out]
    exact ⟨rfl, hW.trans y.ext⟩
end Go.Proofs.YtjglidlmpjmjeaaGreatDoor
