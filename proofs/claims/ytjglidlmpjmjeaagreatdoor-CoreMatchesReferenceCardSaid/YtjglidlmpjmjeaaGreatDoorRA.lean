/- Walks of the reference of spans: Far, InRange, Valid, Has, in. -/
import Derived.Test.YtjglidlmpjmjeaaGreatDoorPD
namespace Go.Proofs.YtjglidlmpjmjeaaGreatDoor
open Go.RowKit

theorem rFar_calls (t : Int) (w : World) : Calls Tryz.prog 109 #[.int .i64 t] w fun e w' => e = .returned (.bool (farB t)) ∧ Ext w w' := by
 by_cases h1 : t < -2251799813685248
 ·have R : Hid (farB t = true) := by show _ = _; simp [farB, h1]
  go_enter Tryz.func109, Tryz.ntmps109
  go_wp2
  go_ret
  rw [R.out]
  exact ⟨rfl, Ext.refl _⟩
 ·by_cases h2 : 2251799813685248 < t
  ·have R : Hid (farB t = true) := by show _ = _; simp [farB, h2]
   go_enter Tryz.func109, Tryz.ntmps109
   go_wp2
   go_ret
   rw [R.out]
   exact ⟨rfl, Ext.refl _⟩
  ·have R : Hid (farB t = false) := by show _ = _; simp [farB, h1, h2]
   go_enter Tryz.func109, Tryz.ntmps109
   go_wp2
   go_ret
   rw [R.out]
   exact ⟨rfl, Ext.refl _⟩
theorem ranged_step {l : List (Int × Int)} {i : Nat} {x y : Int} (d : l.drop i = (x, y) :: l.drop (i + 1)) : rangedB (l.drop i) = (!(farB x || farB y) && rangedB (l.drop (i + 1))) := by rw [d]; rfl

set_option maxHeartbeats 800000 in
theorem rInRange_calls (va : Value) (l : List (Int × Int)) (w : World) (h : Spans w va l) :
  Calls Tryz.prog 97 #[va] w fun e w' => e = .returned (.bool (rangedB l)) ∧ Ext w w' := by
 obtain ⟨a, c, rfl, hn, hc, hat⟩ := h.open
 clear h
 go_enter Tryz.func97, Tryz.ntmps97
 go_wp2_with fail
 go_loopw [3] (fun vi wr => ∃ i : Nat, i ≤ l.length ∧ vi = .int .i64 i ∧ Ext w wr ∧ Hid (rangedB l = rangedB (l.drop i))) (fun vi _ => l.length - (intOf vi).toNat)
 case atStart => exact ⟨0, by omega, rfl, Ext.refl _, rfl⟩
 case round =>
  obtain ⟨i, hi, rfl, hx, hF⟩ := hrel
  by_cases h1 : i < l.length
  ·obtain ⟨b1, o1, x, y, rfl, hb1, dx, ex, g1, g2⟩ := hat i h1 wr hx
   clear hat
   cases hfx : farB x with
   | true =>
    have R : Hid (rangedB l = false) := by show _ = _; rw [hF.out, ranged_step dx.out, hfx]; rfl
    have hfx' := Lib.hid hfx
    clear hF hfx
    go_wp2_with fail
    refine (rFar_calls x wr).mono ?_
    rintro e w1 ⟨rfl, hx1⟩
    rw [hfx'.out]
    go_wp2
    go_ret
    rw [R.out]
    exact ⟨rfl, hx.trans hx1⟩
   | false =>
    have hfx' := Lib.hid hfx
    clear hfx
    go_wp2_with fail
    refine (rFar_calls x wr).mono ?_
    rintro e w1 ⟨rfl, hx1⟩
    rw [hfx'.out]
    have g2' := hx1.cell g2
    cases hfy : farB y with
    | true =>
     have R : Hid (rangedB l = false) := by show _ = _; rw [hF.out, ranged_step dx.out, hfx'.out, hfy]; rfl
     have hfy' := Lib.hid hfy
     clear hF hfy
     go_wp2_with fail
     refine (rFar_calls y w1).mono ?_
     rintro e w2 ⟨rfl, hx2⟩
     rw [hfy'.out]
     go_wp2
     go_ret
     rw [R.out]
     exact ⟨rfl, (hx.trans hx1).trans hx2⟩
    | false =>
     have R : Hid (rangedB l = rangedB (l.drop (i + 1))) := by show _ = _; rw [hF.out, ranged_step dx.out, hfx'.out, hfy]; rfl
     have hfy' := Lib.hid hfy
     clear hF hfy
     go_wp2_with fail
     refine (rFar_calls y w1).mono ?_
     rintro e w2 ⟨rfl, hx2⟩
     rw [hfy'.out]
     go_wp2
     go_roundw
     case rel => exact ⟨i + 1, by omega, by go_num, (hx.trans hx1).trans hx2, R⟩
     case measure => simp [intOf]; omega
  ·have R : Hid (rangedB l = true) := by show _ = _; rw [hF.out, List.drop_of_length_le (by omega)]; rfl
   clear hF hat
   go_wp2
   go_ret
   rw [R.out]
   exact ⟨rfl, hx⟩

set_option maxHeartbeats 800000 in
theorem rSpanValid_calls (va : Value) (l : List (Int × Int)) (w : World) (h : Spans w va l) :
  Calls Tryz.prog 81 #[va] w fun e w' => e = .returned (.bool (normalB l)) ∧ Ext w w' := by
 have h' := Lib.hid h
 obtain ⟨a, c, rfl, hn, hc, hat⟩ := h.open
 clear h
 go_enter Tryz.func81, Tryz.ntmps81
 go_wp2_with fail
 go_loopw [3] (fun vi wr => ∃ i : Nat, i ≤ l.length ∧ vi = .int .i64 i ∧ Ext w wr ∧ Hid (chainB none l = chainB (prevTo l i) (l.drop i))) (fun vi _ => l.length - (intOf vi).toNat)
 case atStart => exact ⟨0, by omega, rfl, Ext.refl _, rfl⟩
 case round =>
  obtain ⟨i, hi, rfl, hx, hF⟩ := hrel
  by_cases h1 : i < l.length
  ·obtain ⟨b1, o1, x, y, rfl, hb1, dx, ex, g1, g2⟩ := hat i h1 wr hx
   by_cases h2 : y ≤ x
   ·have R : Hid (normalB l = false) := by show _ = _; rw [normalB, hF.out, chainB_first dx.out h2]; rfl
    have hd2 : decide (y ≤ x) = true := by simpa using h2
    clear hF
    go_wp2_with fail
    go_quiet (fail)
    go_wp2
    go_ret
    rw [R.out]
    exact ⟨rfl, hx.drewN _⟩
   ·have hd2 : decide (y ≤ x) = false := by simpa using h2
    by_cases h3 : i = 0
    ·have R : Hid (chainB none l = chainB (prevTo l (i + 1)) (l.drop (i + 1))) := by
      show _ = _
      rw [hF.out, prevTo_succ ex.out, h3, prevTo_zero, chainB_step0 (by have := dx.out; rwa [h3] at this) (by omega)]
     have hd3 : decide (0 < i) = false := by simp; omega
     clear hF h3
     go_wp2_with fail
     go_quiet (fail)
     go_wp2
     go_roundw
     case rel => exact ⟨i + 1, by omega, by go_num, hx.drewN _, R⟩
     case measure => simp [intOf]; omega
    ·obtain ⟨b2, o2, x0, y0, e2, hb2, dx0, ex0, g3, g4⟩ := hat (i - 1) (by omega) wr hx
     cases e2
     have hp := prevTo_pos (by omega) ex0.out
     have hp' := Lib.hid hp
     clear hp g3 hb2 dx0 ex0
     have hd3 : decide (0 < i) = true := by simp; omega
     have hi1 : 1 ≤ i := by omega
     have hi2 : (1 : Int) ≤ (i : Int) := by omega
     have hi3 : (i : Int) - 1 < (l.length : Int) := by omega
     by_cases h4 : x ≤ y0
     ·have R : Hid (normalB l = false) := by show _ = _; rw [normalB, hF.out, hp'.out, chainB_near dx.out h4]; rfl
      have hd4 : decide (x ≤ y0) = true := by simpa using h4
      clear hF h3
      go_wp2_with fail
      go_quiet (fail)
      go_wp2
      go_ret
      rw [R.out]
      exact ⟨rfl, hx.drewN _⟩
     ·have hd4 : decide (x ≤ y0) = false := by simpa using h4
      have R : Hid (chainB none l = chainB (prevTo l (i + 1)) (l.drop (i + 1))) := by
       show _ = _
       rw [hF.out, prevTo_succ ex.out, hp'.out, chainB_step dx.out (by omega) (by omega)]
      clear hF h3
      go_wp2_with fail
      go_quiet (fail)
      go_wp2
      go_roundw
      case rel => exact ⟨i + 1, by omega, by go_num, hx.drewN _, R⟩
      case measure => simp [intOf]; omega
  ·have hcall := Lib.hid (rInRange_calls _ l wr (h'.out.ext hx))
   have R : Hid (rangedB l = normalB l) := by
    show _ = _
    rw [normalB, hF.out, List.drop_of_length_le (by omega), chainB]; rfl
   clear hF
   go_wp2_with fail
   refine hcall.out.mono ?_
   rintro e w1 ⟨rfl, hx1⟩
   go_wp2
   go_ret
   rw [R.out]
   exact ⟨rfl, hx.trans hx1⟩

def hasB (l : List (Int × Int)) (t : Int) : Bool := l.any fun s => decide (s.1 ≤ t) && decide (t < s.2)
theorem has_step {l : List (Int × Int)} {i : Nat} {x y : Int} (t : Int) (d : l.drop i = (x, y) :: l.drop (i + 1)) : hasB (l.drop i) t = (decide (x ≤ t) && decide (t < y) || hasB (l.drop (i + 1)) t) := by rw [d]; rfl
set_option maxHeartbeats 800000 in
theorem rHas_calls (va : Value) (l : List (Int × Int)) (t : Int) (w : World) (h : Spans w va l) :
  Calls Tryz.prog 106 #[va, .int .i64 t] w fun e w' => e = .returned (.bool (hasB l t)) ∧ Ext w w' := by
 obtain ⟨a, c, rfl, hn, hc, hat⟩ := h.open
 clear h
 go_enter Tryz.func106, Tryz.ntmps106
 go_wp2_with fail
 go_loopw [5] (fun vi wr => ∃ i : Nat, i ≤ l.length ∧ vi = .int .i64 i ∧ Ext w wr ∧ Hid (hasB l t = hasB (l.drop i) t)) (fun vi _ => l.length - (intOf vi).toNat)
 case atStart => exact ⟨0, by omega, rfl, Ext.refl _, rfl⟩
 case round =>
  obtain ⟨i, hi, rfl, hx, hF⟩ := hrel
  by_cases h1 : i < l.length
  ·obtain ⟨b1, o1, x, y, rfl, hb1, dx, ex, g1, g2⟩ := hat i h1 wr hx
   clear hat
   by_cases h2 : x ≤ t
   ·have hd2 : decide (x ≤ t) = true := by simpa using h2
    by_cases h3 : t < y
    ·have hd3 : decide (t < y) = true := by simpa using h3
     have R : Hid (hasB l t = true) := by show _ = _; rw [hF.out, has_step t dx.out, hd2, hd3]; rfl
     clear hF
     go_wp2
     go_ret
     rw [R.out]
     exact ⟨rfl, hx⟩
    ·have hd3 : decide (t < y) = false := by simpa using h3
     have R : Hid (hasB l t = hasB (l.drop (i + 1)) t) := by show _ = _; rw [hF.out, has_step t dx.out, hd3]; simp
     clear hF
     go_wp2
     go_roundw
     case rel => exact ⟨i + 1, by omega, by go_num, hx, R⟩
     case measure => simp [intOf]; omega
   ·have hd2 : decide (x ≤ t) = false := by simpa using h2
    have R : Hid (hasB l t = hasB (l.drop (i + 1)) t) := by show _ = _; rw [hF.out, has_step t dx.out, hd2]; simp
    clear hF
    go_wp2
    go_roundw
    case rel => exact ⟨i + 1, by omega, by go_num, hx, R⟩
    case measure => simp [intOf]; omega
  ·have R : Hid (hasB l t = false) := by show _ = _; rw [hF.out, List.drop_of_length_le (by omega)]; rfl
   clear hF hat
   go_wp2
   go_ret
   rw [R.out]
   exact ⟨rfl, hx⟩

def inB (k : Int) (a b : Bool) : Bool := if k = 0 then a || b else if k = 1 then a && b else a && !b
theorem rIn_calls (k : Int) (a b : Bool) (w : World) : Calls Tryz.prog 105 #[.int .i64 k, .bool a, .bool b] w fun e w' => e = .returned (.bool (inB k a b)) ∧ Ext w w' := by
 by_cases h0 : k = 0
 ·subst h0
  have R : Hid (inB 0 a b = (a || b)) := rfl
  cases a <;> cases b <;>
  ·go_enter Tryz.func105, Tryz.ntmps105
   go_wp2
   go_ret
   rw [R.out]
   exact ⟨rfl, Ext.refl _⟩
 ·by_cases h1 : k = 1
  ·subst h1
   have R : Hid (inB 1 a b = (a && b)) := rfl
   clear h0
   cases a <;> cases b <;>
   ·go_enter Tryz.func105, Tryz.ntmps105
    go_wp2
    go_ret
    rw [R.out]
    exact ⟨rfl, Ext.refl _⟩
  ·have R : Hid (inB k a b = (a && !b)) := by show _ = _; simp [inB, h0, h1]
   have hb0 : (k == 0) = false := by simpa using h0
   have hb1 : (k == 1) = false := by simpa using h1
   clear h0 h1
   cases a <;> cases b <;>
   ·go_enter Tryz.func105, Tryz.ntmps105
    go_wp2
    go_ret
    rw [R.out]
    exact ⟨rfl, Ext.refl _⟩
end Go.Proofs.YtjglidlmpjmjeaaGreatDoor
