/- Walks of the reference of cores: Selection, Without, Every, Sub. -/
import Derived.Test.YtjglidlmpjmjeaaGreatDoorKF
import Derived.Test.YtjglidlmpjmjeaaGreatDoorUA
import Derived.Deep.Cut
import Derived.Laws.ResultCell
namespace Go.Proofs.YtjglidlmpjmjeaaGreatDoor
open Go.RowKit List

/-! ### Without -/
theorem erase_take {l : List Int} {i : Nat} {x : Int} (h : l[i]? = some x) (k : Nat) : (l.take (i + 1)).eraseIdx k = if i = k then (l.take i).eraseIdx k else (l.take i).eraseIdx k ++ [x] := by
 have hi := (List.getElem?_eq_some_iff.1 h).1
 have hl : (l.take i).length = i := by rw [List.length_take]; omega
 rw [List.take_add_one, h, Option.toList_some]
 by_cases hk : k < i
 ·rw [List.eraseIdx_append_of_lt_length (by omega), if_neg (by omega)]
 ·have e1 : (l.take i).eraseIdx k = l.take i := List.eraseIdx_of_length_le (by omega)
  rw [List.eraseIdx_append_of_length_le (by omega), e1, hl]
  by_cases he : i = k
  ·rw [if_pos he, he, Nat.sub_self]; simp
  ·rw [if_neg he, List.eraseIdx_of_length_le (by simp; omega)]
set_option maxHeartbeats 1600000 in
set_option maxRecDepth 100000 in
theorem rWithout_calls (va : Value) (l : List Int) (k : Nat) (w : World) (h : Ints w va l) (hlen : l.length ≤ 1000) :
  Calls Tryz.prog 32 #[va, .int .i64 k] w fun e w' => ∃ v, e = .returned v ∧ IntsO w' w.heap.size v (l.eraseIdx k) ∧ Ext w w' := by
 obtain ⟨la, lc, rfl, hn, hc, hlat⟩ := h.open
 obtain ⟨j0, hj0, jz0, jz1, jz2⟩ := info_parts int_info
 have hlat' := Lib.hid hlat
 clear h hlat
 go_enter Tryz.func32, Tryz.ntmps32
 go_wp2_with fail
 refine wp_abs (S := fun W => Hid (Ext w W) ∧ Hid (IntsO W w.heap.size (.slice (some ⟨w.heap.size, 0, none⟩) 0 0) [])) ?_ ?_
 ·exact ⟨Lib.hid (by exact (by with_reducible repeat' (first | exact Ext.refl _ | assumption | refine Ext.drewN ?_ _ | refine Ext.drew ?_ | refine Ext.alloc ?_ _ | refine Ext.trans ?_ (by with_reducible assumption)))), Lib.hid (World.ownsRow_made (base := w.heap.size) (e := 3) (size := 1) w #[] 0 (Nat.le_refl _) (by unfold maxLen; omega) rfl)⟩
 rintro W1 ⟨hx1, ho1⟩
 go_loopw [5, 6] (fun vo vi wr => ∃ (i : Nat), i ≤ l.length ∧ vi = .int .i64 i ∧ Hid (Ext w wr) ∧ Hid (IntsO wr w.heap.size vo ((l.take i).eraseIdx k))) (fun _ vi _ => l.length - (intOf vi).toNat)
 case atStart => exact ⟨0, by omega, rfl, hx1, Lib.hid (by simpa using ho1.out)⟩
 case round =>
  clear hx1 ho1
  obtain ⟨i, hi, rfl, hxw, hO⟩ := hrel
  by_cases h1 : i < l.length
  ·obtain ⟨b1, o1, x, rfl, hb1, _, ex, g1⟩ := hlat'.out i h1 wr hxw.out
   have hst := Lib.hid (erase_take ex.out k)
   clear ex
   by_cases hik : i = k
   ·have d0 : ((i : Int) != (k : Int)) = false := by rw [hik]; simp
    rw [if_pos hik] at hst
    have hN : Hid (IntsO wr w.heap.size _ ((l.take (i + 1)).eraseIdx k)) := Lib.hid (by rw [hst.out]; exact hO.out)
    clear hst hik hO g1
    go_wp2_with fail
    go_roundw
    case rel => exact ⟨i + 1, by omega, by go_num, hxw, hN⟩
    case measure => simp [intOf]; omega
   ·have d0 : ((i : Int) != (k : Int)) = true := by simp; omega
    rw [if_neg hik] at hst
    have hrow := hO.out
    unfold IntsO at hrow
    obtain ⟨m, hm⟩ : ∃ m, Hid (((l.take i).eraseIdx k).length = m) := ⟨_, rfl⟩
    have hml : m ≤ 1000 := by
     have a := List.length_eraseIdx_le (l.take i) k
     have b : (l.take i).length ≤ l.length := by rw [List.length_take]; omega
     rw [← hm.out]
     omega
    rw [hm.out] at hrow
    obtain ⟨A, C, rfl⟩ := owns_form hrow
    have hrow' := Lib.hid hrow
    have lw := hxw.out.size
    clear hrow hik
    go_wp2_with (at_builtin; refine wpList_append_any _ rfl (.tmp 17) (.tmp 22) _ rfl w.heap.size 3 j0 _ 1 8 Tryz.underlying23 hj0 jz0 jz1 jz2 rfl (by decide) (.slice A m C) m _ rfl (hrow'.out.alloc _) (wr.heap.size + 1) (some ⟨wr.heap.size, 0, none⟩) 1 1 [.int .i64 x] rfl (reads_last _ #[_] _ 1 1 _ _ (by simp) (by omega) rfl) (one_int _) (by unfold maxLen; omega) (by omega) (by rw [World.size_alloc]; omega) ?_; intro v1 w1 hown1 hg1 hat1; have hN : Hid (IntsO w1 w.heap.size v1 ((l.take (i + 1)).eraseIdx k)) := Lib.hid (by rw [hst.out]; exact IntsO.push hO.out hm.out.symm hown1); have hE := Lib.hid (Ext.push hxw.out hrow'.out _ hg1); clear hg1 hat1 hown1)
    go_roundw
    case rel => exact ⟨i + 1, by omega, by go_num, hE, hN⟩
    case measure => simp [intOf]; omega
  ·obtain rfl : i = l.length := by omega
   have hfin := hO.out
   rw [List.take_length] at hfin
   have hfin' := Lib.hid hfin
   clear hfin hO
   go_wp2
   go_ret
   exact ⟨_, rfl, hfin'.out, hxw.out⟩

/-! ### Every -/
set_option maxHeartbeats 1600000 in
set_option maxRecDepth 100000 in
theorem rEvery_calls (n : Nat) (w : World) (hlen : n ≤ 1000) :
  Calls Tryz.prog 30 #[.int .i64 n] w fun e w' => ∃ v, e = .returned v ∧ IntsO w' w.heap.size v (upI n) ∧ Ext w w' := by
 obtain ⟨j0, hj0, jz0, jz1, jz2⟩ := info_parts int_info
 go_enter Tryz.func30, Tryz.ntmps30
 go_wp2_with fail
 refine wp_abs (S := fun W => Hid (Ext w W) ∧ Hid (IntsO W w.heap.size (.slice (some ⟨w.heap.size, 0, none⟩) 0 0) [])) ?_ ?_
 ·exact ⟨Lib.hid (by exact (by with_reducible repeat' (first | exact Ext.refl _ | assumption | refine Ext.drewN ?_ _ | refine Ext.drew ?_ | refine Ext.alloc ?_ _ | refine Ext.trans ?_ (by with_reducible assumption)))), Lib.hid (World.ownsRow_made (base := w.heap.size) (e := 3) (size := 1) w #[] 0 (Nat.le_refl _) (by unfold maxLen; omega) rfl)⟩
 rintro W1 ⟨hx1, ho1⟩
 go_loopw [3, 4] (fun vo vi wr => ∃ (i : Nat), i ≤ n ∧ vi = .int .i64 i ∧ Hid (Ext w wr) ∧ Hid (IntsO wr w.heap.size vo (upI i))) (fun _ vi _ => n - (intOf vi).toNat)
 case atStart => exact ⟨0, by omega, rfl, hx1, ho1⟩
 case round =>
  clear hx1 ho1
  obtain ⟨i, hi, rfl, hxw, hO⟩ := hrel
  by_cases h1 : i < n
  ·have hrow := hO.out
   unfold IntsO at hrow
   rw [upI_len] at hrow
   obtain ⟨A, C, rfl⟩ := owns_form hrow
   have hrow' := Lib.hid hrow
   have lw := hxw.out.size
   clear hrow
   go_wp2_with (at_builtin; refine wpList_append_any _ rfl (.tmp 11) (.tmp 13) _ rfl w.heap.size 3 j0 _ 1 8 Tryz.underlying23 hj0 jz0 jz1 jz2 rfl (by decide) (.slice A i C) i _ rfl (hrow'.out.alloc _) (wr.heap.size + 1) (some ⟨wr.heap.size, 0, none⟩) 1 1 [.int .i64 (i : Int)] rfl (reads_last _ #[_] _ 1 1 _ _ (by simp) (by omega) rfl) (one_int _) (by unfold maxLen; omega) (by omega) (by rw [World.size_alloc]; omega) ?_; intro v1 w1 hown1 hg1 hat1; have hN : Hid (IntsO w1 w.heap.size v1 (upI (i + 1))) := Lib.hid (by rw [upI_succ]; exact IntsO.push hO.out (upI_len i).symm hown1); have hE := Lib.hid (Ext.push hxw.out hrow'.out _ hg1); clear hg1 hat1 hown1)
   go_roundw
   case rel => exact ⟨i + 1, by omega, by go_num, hE, hN⟩
   case measure => simp [intOf]; omega
  ·obtain rfl : i = n := by omega
   go_wp2
   go_ret
   exact ⟨_, rfl, hO.out, hxw.out⟩

/-! ### Selection -/
theorem selB_at {n : Nat} {l : List Int} {i : Nat} {x last : Int} (h : l[i]? = some x) : selB n last (l.drop i) = (decide (last < x) && decide (x < n) && selB n x (l.drop (i + 1))) := by
 obtain ⟨hi, rfl⟩ := List.getElem?_eq_some_iff.1 h
 rw [List.drop_eq_getElem_cons hi]
 rfl
def lastAt (l : List Int) (i : Nat) : Int := if i = 0 then -1 else l[i - 1]?.getD 0
set_option maxHeartbeats 3200000 in
set_option maxRecDepth 100000 in
theorem rSelection_calls (wv lv : Value) (t : List WishD) (l : List Int) (w : World) (h : Wishes w wv t) (hl : Ints w lv l) :
  Calls Tryz.prog 42 #[.agg #[wv], lv] w fun e w' => e = .returned (.bool (selB t.length (-1) l)) ∧ Ext w w' := by
 obtain ⟨ta, tc, rfl⟩ := h.form
 obtain ⟨la, lc, rfl, hn, hc, hlat⟩ := hl.open
 have htl := h.len
 have hlat' := Lib.hid hlat
 obtain ⟨R, hR⟩ : ∃ R, Hid (selB t.length (-1) l = R) := ⟨_, rfl⟩
 rw [hR.out]
 clear h hl hlat
 go_enter Tryz.func42, Tryz.ntmps42
 go_wp2_with fail
 go_loopw [5] (fun vi wr => ∃ (i : Nat), i ≤ l.length ∧ vi = .int .i64 i ∧ Hid (Ext w wr) ∧ Hid (Blk wr w.heap.size 27 #[.slice ta t.length tc]) ∧ Hid (R = selB t.length (lastAt l i) (l.drop i)) ∧ Hid (-1 ≤ lastAt l i ∧ (0 < i → 0 ≤ lastAt l i))) (fun vi _ => l.length - (intOf vi).toNat)
 case atStart => exact ⟨0, by omega, rfl, Lib.hid (by exact (by with_reducible repeat' (first | exact Ext.refl _ | assumption | refine Ext.drewN ?_ _ | refine Ext.drew ?_ | refine Ext.alloc ?_ _ | refine Ext.trans ?_ (by with_reducible assumption)))), Lib.hid (blk_new' rfl rfl), Lib.hid (by rw [← hR.out]; rfl), Lib.hid ⟨by simp [lastAt], fun h => by omega⟩⟩
 case round =>
  obtain ⟨i, hi, rfl, hx, hB, hF, hP⟩ := hrel
  by_cases h1 : i < l.length
  ·obtain ⟨b1, o1, x, rfl, hb1, _, ex, g1⟩ := hlat'.out i h1 wr hx.out
   have hstep := Lib.hid (selB_at (n := t.length) (last := lastAt l i) ex.out)
   have hnx : Hid (lastAt l (i + 1) = x) := Lib.hid (by simp [lastAt, ex.out])
   have c0 : wr.cell? ⟨w.heap.size, 0, none⟩ = some (.slice ta t.length tc) := hB.out.cell 0
   have bl := hB.out.lt
   obtain ⟨p, hp⟩ : ∃ p, Hid (lastAt l i = p) := ⟨_, rfl⟩
   have hpp := hP.out
   rw [hp.out] at hpp hstep hF
   obtain ⟨hp0, hp1⟩ := hpp
   have hprev : Hid (0 < i → wr.cell? ⟨b1, o1 + (i - 1), none⟩ = some (.int .i64 p)) := Lib.hid fun h0 => by
    obtain ⟨b2, o2, y, e, hb2, _, ey, g2⟩ := hlat'.out (i - 1) (by omega) wr hx.out
    cases e
    rw [g2, ← hp.out]
    unfold lastAt
    rw [if_neg (by omega), ey.out]
    rfl
   clear hP
   by_cases x0 : x < 0
   ·have d0 : decide (x < 0) = true := decide_eq_true x0
    have Rf : Hid (R = false) := Lib.hid (by rw [hF.out, hstep.out]; rw [decide_eq_false (show ¬ p < x by omega)]; rfl)
    clear hF hstep hprev
    go_upto_region 4 with (fail)
    have z1 := After.cell g1
    have z2 := After.cell c0
    clear g1 c0
    refine wp_region_after (by kernel_rfl) (by kernel_rfl) ?_
    repeat (go_big_quiet_step (fail))
    refine wpQuiet_nil ?_
    rintro _ ⟨u, rfl⟩
    have hu := Lib.hid (hx.out.trans u.ext)
    have hB2 := Lib.hid ((Keep.of_ext (X := fun _ => False) u.ext).blk hB.out id)
    generalize u.world = V at hu hB2 ⊢
    clear z1 z2 hx hB
    go_wp2
    go_ret
    rw [Rf.out]
    exact ⟨rfl, hu.out⟩
   ·have d0 : decide (x < 0) = false := decide_eq_false x0
    by_cases x1 : (t.length : Int) ≤ x
    ·have d1 : decide ((t.length : Int) ≤ x) = true := decide_eq_true x1
     have Rf : Hid (R = false) := Lib.hid (by rw [hF.out, hstep.out]; rw [decide_eq_false (show ¬ x < (t.length : Int) by omega)]; simp)
     clear hF hstep hprev
     go_upto_region 4 with (fail)
     have z1 := After.cell g1
     have z2 := After.cell c0
     clear g1 c0
     refine wp_region_after (by kernel_rfl) (by kernel_rfl) ?_
     repeat (go_big_quiet_step (fail))
     refine wpQuiet_nil ?_
     rintro _ ⟨u, rfl⟩
     have hu := Lib.hid (hx.out.trans u.ext)
     have hB2 := Lib.hid ((Keep.of_ext (X := fun _ => False) u.ext).blk hB.out id)
     generalize u.world = V at hu hB2 ⊢
     clear z1 z2 hx hB
     go_wp2
     go_ret
     rw [Rf.out]
     exact ⟨rfl, hu.out⟩
    ·have d1 : decide ((t.length : Int) ≤ x) = false := decide_eq_false x1
     by_cases i0 : i = 0
     ·have d2 : decide (0 < i) = false := by rw [i0]; rfl
      have hp9 : p = -1 := by rw [← hp.out, i0]; rfl
      have N : Hid (R = selB t.length (lastAt l (i + 1)) (l.drop (i + 1))) := Lib.hid (by rw [hF.out, hstep.out, hnx.out, decide_eq_true (show p < x by omega), decide_eq_true (show x < (t.length : Int) by omega)]; rfl)
      have N2 : Hid (-1 ≤ lastAt l (i + 1) ∧ (0 < i + 1 → 0 ≤ lastAt l (i + 1))) := Lib.hid (by rw [hnx.out]; exact ⟨by omega, fun _ => by omega⟩)
      clear hF hstep hprev hnx hp hp9 i0
      go_upto_region 4 with (fail)
      have z1 := After.cell g1
      have z2 := After.cell c0
      clear g1 c0
      refine wp_region_after (by kernel_rfl) (by kernel_rfl) ?_
      repeat (go_big_quiet_step (fail))
      refine wpQuiet_nil ?_
      rintro _ ⟨u, rfl⟩
      have hu := Lib.hid (hx.out.trans u.ext)
      have hB2 := Lib.hid ((Keep.of_ext (X := fun _ => False) u.ext).blk hB.out id)
      generalize u.world = V at hu hB2 ⊢
      clear z1 z2 hx hB
      go_wp2
      go_roundw
      case rel => exact ⟨i + 1, by omega, by go_num, hu, hB2, N, N2⟩
      case measure => simp [intOf]; omega
     ·have d2 : decide (0 < i) = true := decide_eq_true (by omega)
      have g2 := hprev.out (by omega)
      have ei : (i : Int) - 1 = ((i - 1 : Nat) : Int) := by omega
      have z3 := After.cell g2
      by_cases xp : x ≤ p
      ·have d3 : decide (x ≤ p) = true := decide_eq_true xp
       clear g2 i0 hnx
       have Rf : Hid (R = false) := Lib.hid (by rw [hF.out, hstep.out]; rw [decide_eq_false (show ¬ p < x by omega)]; rfl)
       clear hF hstep hprev
       go_upto_region 4 with (fail)
       have z1 := After.cell g1
       have z2 := After.cell c0
       clear g1 c0
       refine wp_region_after (by kernel_rfl) (by kernel_rfl) ?_
       repeat (go_big_quiet_step (fail))
       refine wpQuiet_nil ?_
       rintro _ ⟨u, rfl⟩
       have hu := Lib.hid (hx.out.trans u.ext)
       have hB2 := Lib.hid ((Keep.of_ext (X := fun _ => False) u.ext).blk hB.out id)
       generalize u.world = V at hu hB2 ⊢
       clear z1 z2 hx hB
       go_wp2
       go_ret
       rw [Rf.out]
       exact ⟨rfl, hu.out⟩
      ·have d3 : decide (x ≤ p) = false := decide_eq_false xp
       have N : Hid (R = selB t.length (lastAt l (i + 1)) (l.drop (i + 1))) := Lib.hid (by rw [hF.out, hstep.out, hnx.out, decide_eq_true (show p < x by omega), decide_eq_true (show x < (t.length : Int) by omega)]; rfl)
       have N2 : Hid (-1 ≤ lastAt l (i + 1) ∧ (0 < i + 1 → 0 ≤ lastAt l (i + 1))) := Lib.hid (by rw [hnx.out]; exact ⟨by omega, fun _ => by omega⟩)
       clear hF hstep hprev hnx hp g2 i0
       go_upto_region 4 with (fail)
       have z1 := After.cell g1
       have z2 := After.cell c0
       clear g1 c0
       refine wp_region_after (by kernel_rfl) (by kernel_rfl) ?_
       repeat (go_big_quiet_step (fail))
       refine wpQuiet_nil ?_
       rintro _ ⟨u, rfl⟩
       have hu := Lib.hid (hx.out.trans u.ext)
       have hB2 := Lib.hid ((Keep.of_ext (X := fun _ => False) u.ext).blk hB.out id)
       generalize u.world = V at hu hB2 ⊢
       clear z1 z2 hx hB
       go_wp2
       go_roundw
       case rel => exact ⟨i + 1, by omega, by go_num, hu, hB2, N, N2⟩
       case measure => simp [intOf]; omega
  ·have Rt : Hid (R = true) := Lib.hid (by rw [hF.out, List.drop_of_length_le (by omega)]; rfl)
   clear hF
   go_wp2
   go_ret
   rw [Rt.out]
   exact ⟨rfl, hx.out⟩

/-! ### Sub -/
theorem rsub_results {tmps : Array Value} {w : World} {g : Nat} {x : Value} (hp : tmps.getD 4 undef = .pointer (some ⟨g, 0, none⟩)) (hb : Blk w g 27 #[x]) :
  (results Tryz.f51 tmps).run Tryz.prog w = .ok (.agg #[x]) w :=
 results_cell_row Tryz.results51 tmps w g 27 _ (0, 0) _ hp hb Tryz.underlying27 rfl (by kernel_rfl)
set_option maxHeartbeats 3200000 in
set_option maxRecDepth 100000 in
theorem rSub_callsO (wv lv : Value) (t : List WishD) (l : List Int) (w : World) (h : Wishes w wv t) (hl : Ints w lv l) (hsel : ∀ x ∈ l, idxB x t.length = true) (hlen : l.length ≤ 1000) :
  Calls Tryz.prog 51 #[.agg #[wv], lv] w fun e w' => ∃ v xs, e = .returned (.agg #[v]) ∧ w'.ownsRow w.heap.size 52 3 v (subT t l).length xs ∧ WishesC w (subT t l) xs ∧ Ext w w' := by
 obtain ⟨ta, tc, rfl, htn, htc, hat⟩ := h.open
 obtain ⟨la, lc, rfl, hn, hc, hlat⟩ := hl.open
 have hat' := Lib.hid hat
 have hlat' := Lib.hid hlat
 have hsel' := Lib.hid hsel
 obtain ⟨j0, hj0, jz0, jz1, jz2⟩ := info_parts wish_info
 clear h hl hat hlat hsel
 go_enter Tryz.func51, Tryz.ntmps51
 go_upto_region 2 with (fail)
 refine wp_abs (S := fun W => Hid (Ext w W) ∧ Hid (Blk W w.heap.size 27 #[.slice ta t.length tc]) ∧ Hid (Blk W (w.heap.size + 1) 27 #[.slice none 0 0]) ∧ Hid (Blk W (w.heap.size + 2) 27 #[.slice none 0 0])) ?_ ?_
 ·exact ⟨Lib.hid (by exact (by with_reducible repeat' (first | exact Ext.refl _ | assumption | refine Ext.drewN ?_ _ | refine Ext.drew ?_ | refine Ext.alloc ?_ _ | refine Ext.trans ?_ (by with_reducible assumption)))), Lib.hid (Blk.alloc (Blk.alloc (blk_new' rfl rfl) _) _), Lib.hid (Blk.alloc (blk_new' (by simp) rfl) _), Lib.hid (blk_new' (by simp) rfl)⟩
 rintro W1 ⟨hE1, hB1, hR1, hO1⟩
 go_wp2_with fail
 go_loopw [6] (fun vi wr => ∃ (i : Nat) (A : Option Addr) (C : Nat) (xs : List Value), i ≤ l.length ∧ vi = .int .i64 i ∧ Hid (Ext w wr) ∧ Hid (Blk wr w.heap.size 27 #[.slice ta t.length tc]) ∧ Hid (Blk wr (w.heap.size + 1) 27 #[.slice none 0 0]) ∧ Hid (Blk wr (w.heap.size + 2) 27 #[.slice A i C]) ∧ Hid (wr.ownsRow (w.heap.size + 3) 52 3 (.slice A i C) i xs) ∧ Hid (WishesC w (subT t (l.take i)) xs)) (fun vi _ => l.length - (intOf vi).toNat)
 case atStart => exact ⟨0, none, 0, [], by omega, rfl, hE1, hB1, hR1, hO1, Lib.hid (World.ownsRow_nil _ _ _ _), Lib.hid rfl⟩
 case round =>
  clear hE1 hB1 hR1 hO1
  obtain ⟨i, A, C, xs, hi, rfl, hE, hB, hR, hO, hown, hW⟩ := hrel
  by_cases h1 : i < l.length
  ·obtain ⟨b1, o1, x, rfl, hb1, _, ex, g1⟩ := hlat'.out i h1 wr hE.out
   obtain ⟨k, rfl, hk⟩ := idxB_nat (hsel'.out x (List.mem_of_getElem? ex.out))
   obtain ⟨b2, o2, y, pa, pc, oa, oc, rfl, hb2, _, ey, q1, q2, q3, gp, go⟩ := hat'.out k hk w (Ext.refl _)
   have hnext : Hid (subT t (l.take (i + 1)) = subT t (l.take i) ++ [y]) := subT_take ex.out (by simpa using ey.out)
   have hWn : Hid (WishesC w (subT t (l.take (i + 1))) (xs ++ [.int .i64 y.meeting, .slice pa y.people.length pc, .slice oa y.opts.length oc])) := by rw [hnext.out]; exact Lib.hid (WishesC.snoc ⟨gp, go⟩ hW.out)
   have z0 := After.cell g1
   have z1 := After.cell (hE.out.cell q1)
   have z2 := After.cell (hE.out.cell q2)
   have z3 := After.cell (hE.out.cell q3)
   have z4 := After.cell (show wr.cell? ⟨w.heap.size, 0, none⟩ = some (.slice (some ⟨b2, o2, none⟩) t.length tc) from hB.out.cell 0)
   have z5 := After.cell (show wr.cell? ⟨w.heap.size + 2, 0, none⟩ = some (.slice A i C) from hO.out.cell 0)
   clear q1 q2 q3 gp go ey ex hnext hW hb1 g1
   go_upto_region 5 with (fail)
   (refine wp_region_held [] [0, 1, 2, 3, 4, 5, 6, 7, 8, 9, 10] [11, 12, 13] (fun _ _ _ => True) (by kernel_rfl) (by kernel_rfl) ?_; simp only [pickL]; with_reducible refine wpQuiet_nil ?_)
   (refine held_quiet [0, 1, 2, 3, 4, 5, 6, 7, 8, 9] [10] (by kernel_rfl) (by kernel_rfl) ?_; simp only [pickL, List.drop]; (repeat (go_big_quiet_step (fail))); with_reducible refine wpQuiet_nil ?_)
   (refine held_made 10 [] rfl (by kernel_rfl) (fun g => .slice (some ⟨g, 0, none⟩) 1 1) (.cells #[.int .i64 y.meeting, .slice pa y.people.length pc, .slice oa y.opts.length oc] 52) (fun W => by kernel_rfl) (fun g g2 e => by cases e; rfl) (fun g => rfl) ?_)
   intro gs
   simp only [Act.put, List.setIfInBounds_toArray, List.set_cons_succ, List.set_cons_zero]
   intro V hxv hfc ht Q0 hQ0
   have h7 := (hfc 10).2 rfl
   have b7 : Blk V gs 52 #[.int .i64 y.meeting, .slice pa y.people.length pc, .slice oa y.opts.length oc] := h7.1
   have hsrc := Lib.hid (reads_blkW (size := 3) (m := 1) b7 rfl)
   have hownV := Lib.hid (owns_ext hown.out hxv)
   have hEV := Lib.hid (hE.out.trans hxv)
   have kv := Keep.of_ext (X := fun _ => False) hxv
   have hBV := Lib.hid (kv.blk hB.out id)
   have hRV := Lib.hid (kv.blk hR.out id)
   have hOV := Lib.hid (kv.blk hO.out id)
   have hsz : w.heap.size + 3 ≤ V.heap.size := by have := hOV.out.lt; omega
   simp only [pickL, List.drop]
   clear hfc ht h7 b7 z0 z1 z2 z3 z4 z5 hown hE kv hB hR hO hxv
   go_wp2_with (at_builtin; refine wpList_append_any _ rfl (.tmp 15) (.tmp 24) _ rfl (w.heap.size + 3) 52 j0 _ 3 56 Tryz.underlying25 hj0 jz0 jz1 jz2 rfl (by decide) (.slice A i C) i _ rfl hownV.out V.heap.size (some ⟨gs, 0, none⟩) 1 1 _ rfl hsrc.out (wish_cells _ _ _ rfl rfl) (by unfold maxLen; omega) (by omega) hsz ?_; intro v5 w5 hown5 hg5 hat5; obtain ⟨A5, C5, rfl⟩ := owns_form hown5; have hOb5 : Blk w5 (w.heap.size + 2) 27 #[.slice A i C] := hOV.out.grown hg5 (fun e => by have := (hownV.out.lt _ e.symm).1; omega); have m5 : w5.cell? ⟨w.heap.size + 2, 0, none⟩ = some (.slice A i C) := hOb5.cell 0; have f5 := hOb5.frozen 0; have lt5 := hOb5.lt)
   have hg6 : w5.heap.size ≥ V.heap.size := hg5.size
   have hE5 := hEV.out.grown hg5 (fun k e => by have := (hownV.out.lt _ e).1; omega)
   have hB5 := hBV.out.grown hg5 (fun e => by have := (hownV.out.lt _ e.symm).1; omega)
   have hR5 := hRV.out.grown hg5 (fun e => by have := (hownV.out.lt _ e.symm).1; omega)
   have hO5 := hOb5.set_ 0 (.slice A5 (i + 1) C5)
   have k5 := keep_set w5 (w.heap.size + 2) 0 (.slice A5 (i + 1) C5)
   have o5 := k5.owns hown5 (fun g e h => by have := (hown5.lt _ e).1; omega)
   refine ⟨⟨i + 1, A5, C5, _, h1, by go_num, Lib.hid (hE5.setCell (by show w.heap.size ≤ w.heap.size + 2; omega) _), Lib.hid (hB5.far (by show w.heap.size ≠ w.heap.size + 2; omega) _), Lib.hid (hR5.far (by show w.heap.size + 1 ≠ w.heap.size + 2; omega) _), Lib.hid hO5, Lib.hid o5, hWn⟩, ?_⟩
   simp [intOf]; omega
  ·have hWl : Hid (WishesC w (subT t l) xs) := by
    have := hW.out
    rwa [List.take_of_length_le (by omega)] at this
   obtain rfl : i = l.length := by omega
   have m5 : wr.cell? ⟨w.heap.size + 2, 0, none⟩ = some (.slice A l.length C) := hO.out.cell 0
   have m6 : wr.cell? ⟨w.heap.size + 1, 0, none⟩ = some (.slice none 0 0) := hR.out.cell 0
   have f6 := hR.out.frozen 0
   have l5 := hO.out.lt
   have l6 := hR.out.lt
   clear hW
   go_wp2
   refine bodyPost_ret (rsub_results rfl (hR.out.set_ 0 _)) rfl ?_
   have hE9 := hE.out.setCell (p := ⟨w.heap.size + 1, 0, none⟩) (by show w.heap.size ≤ w.heap.size + 1; omega) (.slice A l.length C)
   have o9 := (keep_set wr (w.heap.size + 1) 0 (.slice A l.length C)).owns hown.out (fun g e h => by have := (hown.out.lt _ e).1; omega)
   exact ⟨_, xs, rfl, by rw [sub_len]; exact owns_base o9 (by omega), hWl.out, hE9⟩
theorem rSub_calls (wv lv : Value) (t : List WishD) (l : List Int) (w : World) (h : Wishes w wv t) (hl : Ints w lv l) (hsel : ∀ x ∈ l, idxB x t.length = true) (hlen : l.length ≤ 1000) :
  Calls Tryz.prog 51 #[.agg #[wv], lv] w fun e w' => ∃ v, e = .returned (.agg #[v]) ∧ Wishes w' v (subT t l) ∧ Ext w w' := by
 refine (rSub_callsO wv lv t l w h hl hsel hlen).mono ?_
 rintro e w' ⟨v, xs, rfl, h1, h2, h3⟩
 exact ⟨v, rfl, wishes_of_rowK h1 (h2.ext h3), h3⟩
end Go.Proofs.YtjglidlmpjmjeaaGreatDoor
