/- Walks of the reference of plans: tooLarge, validWish, Valid. -/
import Derived.Test.YtjglidlmpjmjeaaGreatDoorRA
namespace Go.Proofs.YtjglidlmpjmjeaaGreatDoor
open Go.RowKit

def wideB (o : OptD) : Bool := decide (64 < o.spans.length)
def bigB (x : WishD) : Bool := decide (16 < x.opts.length) || decide (64 < x.people.length) || x.opts.any wideB
theorem tooLargeB_eq (t : List WishD) : tooLargeB t = (decide (512 < t.length) || t.any bigB) := rfl
theorem any_step {α : Type} {p : α → Bool} {l : List α} {i : Nat} {x : α} (d : l.drop i = x :: l.drop (i + 1)) : (l.drop i).any p = (p x || (l.drop (i + 1)).any p) := by rw [d]; rfl
theorem any_end {α : Type} {p : α → Bool} {l : List α} {i : Nat} (h : l.length ≤ i) : (l.drop i).any p = false := by rw [List.drop_of_length_le h]; rfl
theorem all_step {α : Type} {p : α → Bool} {l : List α} {i : Nat} {x : α} (d : l.drop i = x :: l.drop (i + 1)) : (l.drop i).all p = (p x && (l.drop (i + 1)).all p) := by rw [d]; rfl
theorem all_end {α : Type} {p : α → Bool} {l : List α} {i : Nat} (h : l.length ≤ i) : (l.drop i).all p = true := by rw [List.drop_of_length_le h]; rfl

set_option maxHeartbeats 1600000 in
theorem rTooLarge_calls (wv : Value) (t : List WishD) (w : World) (h : Wishes w wv t) :
  Calls Tryz.prog 58 #[.agg #[wv]] w fun e w' => e = .returned (.bool (tooLargeB t)) ∧ Ext w w' := by
 obtain ⟨a, c, rfl, hn, hc, hat⟩ := h.open
 clear h
 by_cases h0 : 512 < t.length
 ·have R : Hid (tooLargeB t = true) := by show _ = _; simp [tooLargeB_eq, h0]
  go_enter Tryz.func58, Tryz.ntmps58
  go_wp2
  go_ret
  rw [R.out]
  exact ⟨rfl, (by with_reducible repeat' (first | exact Ext.refl _ | assumption | refine Ext.drewN ?_ _ | refine Ext.drew ?_ | refine Ext.alloc ?_ _ | refine Ext.trans ?_ (by with_reducible assumption)))⟩
 ·have R0 : Hid (tooLargeB t = t.any bigB) := by show _ = _; simp [tooLargeB_eq, h0]
  have d0 : decide ((512 : Int) < (t.length : Int)) = false := by simp; omega
  go_enter Tryz.func58, Tryz.ntmps58
  go_wp2_with fail
  refine wp_abs (S := fun W => Hid (Ext w W) ∧ W.cell? ⟨w.heap.size, 0, none⟩ = some (.slice a t.length c)) ⟨Lib.hid (by exact (by with_reducible repeat' (first | exact Ext.refl _ | assumption | refine Ext.drewN ?_ _ | refine Ext.drew ?_ | refine Ext.alloc ?_ _ | refine Ext.trans ?_ (by with_reducible assumption)))), by simp⟩ ?_
  rintro W1 ⟨hx1, c0⟩
  go_loopw [3] (fun vi wr => ∃ i : Nat, i ≤ t.length ∧ vi = .int .i64 i ∧ Hid (Ext W1 wr) ∧ Hid (t.any bigB = (t.drop i).any bigB)) (fun vi _ => t.length - (intOf vi).toNat)
  case atStart => exact ⟨0, by omega, rfl, Lib.hid (Ext.refl _), rfl⟩
  case round =>
   obtain ⟨i, hi, rfl, hx, hF⟩ := hrel
   have e0 := hx.out.cell c0
   have hxw := Lib.hid (hx1.out.trans hx.out)
   by_cases h1 : i < t.length
   ·obtain ⟨b1, o1, x, pa, pc, oa, oc, rfl, hb1, dx, ex, g0, g1, g2, gp, go⟩ := hat i h1 wr hxw.out
    have lp := gp.len
    have lo := go.len
    have go' := Lib.hid go
    clear gp go hat
    by_cases h2 : 16 < x.opts.length
    ·have d2 : decide ((16 : Int) < (x.opts.length : Int)) = true := by simp; omega
     have hE : bigB x = true := by simp [bigB, h2]
     have hE' := Lib.hid hE
     clear hE
     have R : Hid (tooLargeB t = true) := by show _ = _; rw [R0.out, hF.out, any_step dx.out, hE'.out]; rfl
     clear hF
     go_wp2
     go_ret
     rw [R.out]
     exact ⟨rfl, Ext.trans hxw.out (by exact (by with_reducible repeat' (first | exact Ext.refl _ | assumption | refine Ext.drewN ?_ _ | refine Ext.drew ?_ | refine Ext.alloc ?_ _ | refine Ext.trans ?_ (by with_reducible assumption))))⟩
    ·have d2 : decide ((16 : Int) < (x.opts.length : Int)) = false := by simp; omega
     by_cases h3 : 64 < x.people.length
     ·have d3 : decide ((64 : Int) < (x.people.length : Int)) = true := by simp; omega
      have hE : bigB x = true := by simp [bigB, h3]
      have hE' := Lib.hid hE
      clear hE
      have R : Hid (tooLargeB t = true) := by show _ = _; rw [R0.out, hF.out, any_step dx.out, hE'.out]; rfl
      clear hF
      go_wp2
      go_ret
      rw [R.out]
      exact ⟨rfl, Ext.trans hxw.out (by exact (by with_reducible repeat' (first | exact Ext.refl _ | assumption | refine Ext.drewN ?_ _ | refine Ext.drew ?_ | refine Ext.alloc ?_ _ | refine Ext.trans ?_ (by with_reducible assumption))))⟩
     ·have d3 : decide ((64 : Int) < (x.people.length : Int)) = false := by simp; omega
      have hE' : Hid (bigB x = x.opts.any wideB) := by show _ = _; simp [bigB, h2, h3]
      obtain ⟨w0, hw0⟩ : ∃ w0 : World, Hid (wr = w0) := ⟨_, rfl⟩
      obtain ⟨_, _, e1, _, _, oat⟩ := go'.out.open
      cases e1
      go_wp2_with fail
      rw [hw0.out] at hx e0 hxw g0 g1 g2 go' hb1 oat
      rw [hw0.out]
      clear hw0
      refine wp_abs (S := fun W => Hid (Ext w0 W) ∧ W.cell? ⟨w0.heap.size, 2, none⟩ = some (.slice oa x.opts.length oc)) ⟨Lib.hid (by exact (by with_reducible repeat' (first | exact Ext.refl _ | assumption | refine Ext.drewN ?_ _ | refine Ext.drew ?_ | refine Ext.alloc ?_ _ | refine Ext.trans ?_ (by with_reducible assumption)))), by simp⟩ ?_
      rintro W2 ⟨hx2, c2⟩
      go_loopw [5] (fun vk wk => ∃ k : Nat, k ≤ x.opts.length ∧ vk = .int .i64 k ∧ Hid (Ext W2 wk) ∧ Hid (x.opts.any wideB = (x.opts.drop k).any wideB)) (fun vk _ => x.opts.length - (intOf vk).toNat)
      case atStart => exact ⟨0, by omega, rfl, Lib.hid (Ext.refl _), rfl⟩
      case round =>
       obtain ⟨k, hk, rfl, hx3, hG⟩ := hrel
       have e2 := hx3.out.cell c2
       have hxr := Lib.hid (hx2.out.trans hx3.out)
       by_cases q1 : k < x.opts.length
       ·obtain ⟨b2, o2, o, sa, sc, rfl, hb2, dy, ey, k0, k1, k2, ks⟩ := oat k q1 wr hxr.out
        have ls := ks.len
        clear ks oat
        by_cases q2 : 64 < o.spans.length
        ·have d4 : decide ((64 : Int) < (o.spans.length : Int)) = true := by simp; omega
         have R : Hid (tooLargeB t = true) := by
          show _ = _
          rw [R0.out, hF.out, any_step dx.out, hE'.out, hG.out, any_step dy.out, show wideB o = true by simp [wideB, q2]]
          rfl
         clear hF hG hE'
         go_wp2
         go_ret
         rw [R.out]
         exact ⟨rfl, hxw.out.trans hxr.out⟩
        ·have d4 : decide ((64 : Int) < (o.spans.length : Int)) = false := by simp; omega
         have R : Hid (x.opts.any wideB = (x.opts.drop (k + 1)).any wideB) := by
          show _ = _
          rw [hG.out, any_step dy.out, show wideB o = false by simp [wideB]; omega]
          rfl
         clear hG
         go_wp2
         go_roundw
         case rel => exact ⟨k + 1, by omega, by go_num, hx3, R⟩
         case measure => simp [intOf]; omega
       ·have R : Hid (t.any bigB = (t.drop (i + 1)).any bigB) := by
         show _ = _
         rw [hF.out, any_step dx.out, hE'.out, hG.out, any_end (by omega)]
         rfl
        have hxn := Lib.hid (hx.out.trans hxr.out)
        clear hF hG hE' oat
        go_wp2
        go_roundw
        case rel => exact ⟨i + 1, by omega, by go_num, hxn, R⟩
        case measure => simp [intOf]; omega
   ·have R : Hid (tooLargeB t = false) := by show _ = _; rw [R0.out, hF.out, any_end (by omega)]
    clear hF hat
    go_wp2
    go_ret
    rw [R.out]
    exact ⟨rfl, hxw.out⟩

theorem optOkB_of {o : OptD} (h : normalB o.spans = true) (h1 : 0 ≤ o.harm) (h2 : o.harm ≤ 1000000) (h3 : -1 ≤ o.room) (h4 : o.room < 256) : optOkB o = true := by simp [optOkB, h, h1, h2, h3, h4]
theorem optOkB_no {o : OptD} (h : normalB o.spans = false ∨ o.harm < 0 ∨ 1000000 < o.harm ∨ o.room < -1 ∨ 256 ≤ o.room) : optOkB o = false := by
 simp only [optOkB, Bool.and_eq_false_iff, decide_eq_false_iff_not]
 rcases h with h | h | h | h | h
 ·exact Or.inr h
 ·exact Or.inl (Or.inl (Or.inl (Or.inl (by omega))))
 ·exact Or.inl (Or.inl (Or.inl (Or.inr (by omega))))
 ·exact Or.inl (Or.inl (Or.inr (by omega)))
 ·exact Or.inl (Or.inr (by omega))

set_option maxHeartbeats 3200000 in
theorem rValidWish_calls (v : Value) (x : WishD) (w : World) (h : WishV w v x) :
  Calls Tryz.prog 59 #[v] w fun e w' => e = .returned (.bool (wishOkB x)) ∧ Ext w w' := by
 obtain ⟨pv, ov, rfl, hp, ho⟩ := h
 obtain ⟨pa, pc, rfl, hpn, hpc, hat⟩ := hp.open
 obtain ⟨oa, oc, rfl, hon, hoc, oat⟩ := ho.open
 have lo := ho.len
 clear hp ho
 by_cases m1 : x.meeting < 1
 ·have d1 : decide (x.meeting < 1) = true := by simpa using m1
  have R : Hid (wishOkB x = false) := by show _ = _; simp only [wishOkB]; rw [show decide (1 ≤ x.meeting) = false by simp; omega]; simp
  go_enter Tryz.func59, Tryz.ntmps59
  go_wp2
  go_ret
  rw [R.out]
  exact ⟨rfl, (by with_reducible repeat' (first | exact Ext.refl _ | assumption | refine Ext.drewN ?_ _ | refine Ext.drew ?_ | refine Ext.alloc ?_ _ | refine Ext.trans ?_ (by with_reducible assumption)))⟩
 ·have d1 : decide (x.meeting < 1) = false := by simpa using m1
  by_cases m2 : x.opts.length = 0
  ·have d2 : ((x.opts.length : Int) == 0) = true := by rw [beq_iff_eq]; omega
   have R : Hid (wishOkB x = false) := by show _ = _; simp only [wishOkB]; rw [show decide (0 < x.opts.length) = false from decide_eq_false (by omega)]; simp
   clear m2
   go_enter Tryz.func59, Tryz.ntmps59
   go_wp2
   go_ret
   rw [R.out]
   exact ⟨rfl, (by with_reducible repeat' (first | exact Ext.refl _ | assumption | refine Ext.drewN ?_ _ | refine Ext.drew ?_ | refine Ext.alloc ?_ _ | refine Ext.trans ?_ (by with_reducible assumption)))⟩
  ·have d2 : ((x.opts.length : Int) == 0) = false := by rw [beq_eq_false_iff_ne]; omega
   have R0 : Hid (wishOkB x = (peopleB none x.people && x.opts.all optOkB)) := by
    show _ = _
    simp only [wishOkB]
    rw [show decide (1 ≤ x.meeting) = true by simp; omega, show decide (0 < x.opts.length) = true from decide_eq_true (by omega)]
    simp
   clear m2
   go_enter Tryz.func59, Tryz.ntmps59
   go_wp2_with fail
   refine wp_abs (S := fun W => Hid (Ext w W) ∧ W.cell? ⟨w.heap.size, 0, none⟩ = some (.int .i64 x.meeting) ∧ W.cell? ⟨w.heap.size, 1, none⟩ = some (.slice pa x.people.length pc) ∧ W.cell? ⟨w.heap.size, 2, none⟩ = some (.slice oa x.opts.length oc)) ⟨Lib.hid (by exact (by with_reducible repeat' (first | exact Ext.refl _ | assumption | refine Ext.drewN ?_ _ | refine Ext.drew ?_ | refine Ext.alloc ?_ _ | refine Ext.trans ?_ (by with_reducible assumption)))), by simp, by simp, by simp⟩ ?_
   rintro W1 ⟨hx1, c0, c1, c2⟩
   go_loopw [3] (fun vi wr => ∃ i : Nat, i ≤ x.people.length ∧ vi = .int .i64 i ∧ Hid (Ext W1 wr) ∧ Hid (peopleB none x.people = peopleB (prevP x.people i) (x.people.drop i))) (fun vi _ => x.people.length - (intOf vi).toNat)
   case atStart => exact ⟨0, by omega, rfl, Lib.hid (Ext.refl _), rfl⟩
   case round =>
    obtain ⟨i, hi, rfl, hx, hF⟩ := hrel
    have e1 := hx.out.cell c1
    have hxw := Lib.hid (hx1.out.trans hx.out)
    by_cases h1 : i < x.people.length
    ·obtain ⟨b1, o1, p, rfl, hb1, dx, ex, g0⟩ := hat i h1 wr hxw.out
     by_cases h2 : p < 0
     ·have d3 : decide (p < 0) = true := by simpa using h2
      have R : Hid (wishOkB x = false) := by show _ = _; rw [R0.out, hF.out, peopleB_bad dx.out (Or.inl h2)]; rfl
      clear hF hat oat
      go_wp2_with fail
      go_quiet (fail)
      go_wp2
      go_ret
      rw [R.out]
      exact ⟨rfl, hxw.out.drewN _⟩
     ·have d3 : decide (p < 0) = false := by simpa using h2
      by_cases h3 : 512 ≤ p
      ·have d4 : decide (512 ≤ p) = true := by simpa using h3
       have R : Hid (wishOkB x = false) := by show _ = _; rw [R0.out, hF.out, peopleB_bad dx.out (Or.inr h3)]; rfl
       clear hF hat oat
       go_wp2_with fail
       go_quiet (fail)
       go_wp2
       go_ret
       rw [R.out]
       exact ⟨rfl, hxw.out.drewN _⟩
      ·have d4 : decide (512 ≤ p) = false := by simpa using h3
       by_cases h4 : i = 0
       ·have R : Hid (peopleB none x.people = peopleB (prevP x.people (i + 1)) (x.people.drop (i + 1))) := by
         show _ = _
         rw [hF.out, prevP_succ ex.out, h4, prevP_zero, peopleB_step0 (by have := dx.out; rwa [h4] at this) (by omega) (by omega)]
        have d5 : decide (0 < i) = false := by simp; omega
        clear hF h4 hat oat
        go_wp2_with fail
        go_quiet (fail)
        go_wp2
        go_roundw
        case rel => exact ⟨i + 1, by omega, by go_num, Lib.hid (hx.out.drewN _), R⟩
        case measure => simp [intOf]; omega
       ·obtain ⟨b2, o2, p0, e2, hb2, dx0, ex0, g3⟩ := hat (i - 1) (by omega) wr hxw.out
        cases e2
        have hp' := Lib.hid (prevP_pos (by omega) ex0.out)
        have d5 : decide (0 < i) = true := by simp; omega
        have hi1 : 1 ≤ i := by omega
        have hi2 : (1 : Int) ≤ (i : Int) := by omega
        have hi3 : (i : Int) - 1 < (x.people.length : Int) := by omega
        clear hb2 dx0 ex0 hat oat
        by_cases h5 : p ≤ p0
        ·have R : Hid (wishOkB x = false) := by show _ = _; rw [R0.out, hF.out, hp'.out, peopleB_near dx.out h5]; rfl
         have d6 : decide (p ≤ p0) = true := by simpa using h5
         clear hF h4
         go_wp2_with fail
         go_quiet (fail)
         go_wp2
         go_ret
         rw [R.out]
         exact ⟨rfl, hxw.out.drewN _⟩
        ·have R : Hid (peopleB none x.people = peopleB (prevP x.people (i + 1)) (x.people.drop (i + 1))) := by
          show _ = _
          rw [hF.out, prevP_succ ex.out, hp'.out, peopleB_step dx.out (by omega) (by omega) (by omega)]
         have d6 : decide (p ≤ p0) = false := by simpa using h5
         clear hF h4
         go_wp2_with fail
         go_quiet (fail)
         go_wp2
         go_roundw
         case rel => exact ⟨i + 1, by omega, by go_num, Lib.hid (hx.out.drewN _), R⟩
         case measure => simp [intOf]; omega
    ·have hP : peopleB none x.people = true := by rw [hF.out, List.drop_of_length_le (by omega)]; cases prevP x.people i <;> rfl
     have R1 : Hid (wishOkB x = x.opts.all optOkB) := by show _ = _; rw [R0.out, hP]; rfl
     have e2 := hx.out.cell c2
     obtain ⟨w0, hw0⟩ : ∃ w0 : World, Hid (wr = w0) := ⟨_, rfl⟩
     clear hF hP hat hx
     go_wp2_with fail
     rw [hw0.out] at e2 hxw
     rw [hw0.out]
     clear hw0 e1
     go_loopw [4] (fun vk wk => ∃ k : Nat, k ≤ x.opts.length ∧ vk = .int .i64 k ∧ Hid (Ext w0 wk) ∧ Hid (x.opts.all optOkB = (x.opts.drop k).all optOkB)) (fun vk _ => x.opts.length - (intOf vk).toNat)
     case atStart => exact ⟨0, by omega, rfl, Lib.hid (Ext.refl _), rfl⟩
     case round =>
      obtain ⟨k, hk, rfl, hx3, hG⟩ := hrel
      have e3 := hx3.out.cell e2
      have hxr := Lib.hid (hxw.out.trans hx3.out)
      by_cases q1 : k < x.opts.length
      ·obtain ⟨b2, o2, o, sa, sc, rfl, hb2, dy, ey, k0, k1, k2, ks⟩ := oat k q1 wr hxr.out
       have hks := Lib.hid ks
       clear ks oat
       go_wp2_with fail
       refine (rSpanValid_calls _ o.spans _ (hks.out.ext (by exact (by with_reducible repeat' (first | exact Ext.refl _ | assumption | refine Ext.drewN ?_ _ | refine Ext.drew ?_ | refine Ext.alloc ?_ _ | refine Ext.trans ?_ (by with_reducible assumption)))))).mono ?_
       rintro e w5 ⟨rfl, hx5⟩
       have f0 : w5.cell? ⟨wr.heap.size, 0, none⟩ = some (.int .i64 o.harm) := hx5.cell (by simp)
       have f1 : w5.cell? ⟨wr.heap.size, 1, none⟩ = some (.int .i64 o.room) := hx5.cell (by simp)
       have hx6 := Lib.hid (Ext.trans (show Ext wr _ by exact (by with_reducible repeat' (first | exact Ext.refl _ | assumption | refine Ext.drewN ?_ _ | refine Ext.drew ?_ | refine Ext.alloc ?_ _ | refine Ext.trans ?_ (by with_reducible assumption)))) hx5)
       obtain ⟨nb, hnb⟩ : ∃ nb, Hid (normalB o.spans = nb) := ⟨_, rfl⟩
       rw [hnb.out]
       clear hx5 e3
       cases nb with
       | false =>
        have hE := Lib.hid (optOkB_no (o := o) (Or.inl hnb.out))
        have R : Hid (wishOkB x = false) := by show _ = _; rw [R1.out, hG.out, all_step dy.out, hE.out]; rfl
        clear hG
        go_wp2
        go_ret
        rw [R.out]
        exact ⟨rfl, hxr.out.trans hx6.out⟩
       | true =>
        by_cases r1 : o.harm < 0
        ·have d5 : decide (o.harm < 0) = true := by simpa using r1
         have hE := Lib.hid (optOkB_no (o := o) (Or.inr (Or.inl r1)))
         have R : Hid (wishOkB x = false) := by show _ = _; rw [R1.out, hG.out, all_step dy.out, hE.out]; rfl
         clear hG
         go_wp2
         go_ret
         rw [R.out]
         exact ⟨rfl, hxr.out.trans hx6.out⟩
        ·have d5 : decide (o.harm < 0) = false := by simpa using r1
         by_cases r2 : 1000000 < o.harm
         ·have d6 : decide (1000000 < o.harm) = true := by simpa using r2
          have hE := Lib.hid (optOkB_no (o := o) (Or.inr (Or.inr (Or.inl r2))))
          have R : Hid (wishOkB x = false) := by show _ = _; rw [R1.out, hG.out, all_step dy.out, hE.out]; rfl
          clear hG
          go_wp2
          go_ret
          rw [R.out]
          exact ⟨rfl, hxr.out.trans hx6.out⟩
         ·have d6 : decide (1000000 < o.harm) = false := by simpa using r2
          by_cases r3 : o.room < -1
          ·have d7 : decide (o.room < -1) = true := by simpa using r3
           have hE := Lib.hid (optOkB_no (o := o) (Or.inr (Or.inr (Or.inr (Or.inl r3)))))
           have R : Hid (wishOkB x = false) := by show _ = _; rw [R1.out, hG.out, all_step dy.out, hE.out]; rfl
           clear hG
           go_wp2
           go_ret
           rw [R.out]
           exact ⟨rfl, hxr.out.trans hx6.out⟩
          ·have d7 : decide (o.room < -1) = false := by simpa using r3
           by_cases r4 : 256 ≤ o.room
           ·have d8 : decide (256 ≤ o.room) = true := by simpa using r4
            have hE := Lib.hid (optOkB_no (o := o) (Or.inr (Or.inr (Or.inr (Or.inr r4)))))
            have R : Hid (wishOkB x = false) := by show _ = _; rw [R1.out, hG.out, all_step dy.out, hE.out]; rfl
            clear hG
            go_wp2
            go_ret
            rw [R.out]
            exact ⟨rfl, hxr.out.trans hx6.out⟩
           ·have d8 : decide (256 ≤ o.room) = false := by simpa using r4
            have hE := Lib.hid (optOkB_of hnb.out (by omega) (by omega) (by omega) (by omega))
            have R : Hid (x.opts.all optOkB = (x.opts.drop (k + 1)).all optOkB) := by show _ = _; rw [hG.out, all_step dy.out, hE.out]; rfl
            have hxn := Lib.hid (hx3.out.trans hx6.out)
            clear hG hE
            go_wp2
            go_roundw
            case rel => exact ⟨k + 1, by omega, by go_num, hxn, R⟩
            case measure => simp [intOf]; omega
      ·have R : Hid (wishOkB x = true) := by show _ = _; rw [R1.out, hG.out, all_end (by omega)]
       clear hG oat
       go_wp2
       go_ret
       rw [R.out]
       exact ⟨rfl, hxr.out⟩
end Go.Proofs.YtjglidlmpjmjeaaGreatDoor
