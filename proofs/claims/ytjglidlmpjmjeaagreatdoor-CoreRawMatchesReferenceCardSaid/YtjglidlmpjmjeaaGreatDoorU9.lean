/- The law CoreRawMatchesReference, walked: true for every task and every list of integers. -/
import Derived.Test.YtjglidlmpjmjeaaGreatDoorUG
import Derived.Test.YtjglidlmpjmjeaaGreatDoorVT
import Derived.Test.YtjglidlmpjmjeaaGreatDoorVR
import Derived.Test.YtjglidlmpjmjeaaGreatDoorVC
import Derived.Laws.Strings
namespace Go.Proofs.YtjglidlmpjmjeaaGreatDoor
open Go.RowKit Go.Shelf List

theorem normal_m18 {l : List (Int × Int)} (h : normalB l = true) : ∀ s ∈ l, M18 s.1 ∧ M18 s.2 := fun s hs => by
 simp only [normalB, Bool.and_eq_true, rangedB, List.all_eq_true] at h
 have := h.2 s hs
 simp only [farB, Bool.not_eq_true', Bool.or_eq_false_iff, decide_eq_false_iff_not] at this
 unfold M18
 omega
theorem people_m18 : ∀ {l : List Int} {p : Option Int}, peopleB p l = true → ∀ x ∈ l, M18 x
 | [], _, _, _, hx => by cases hx
 | y :: l, p, h, x, hx => by
  simp only [peopleB, Bool.and_eq_true, decide_eq_true_eq] at h
  rcases List.mem_cons.1 hx with rfl | hx
  ·unfold M18; omega
  ·exact people_m18 h.2 x hx
theorem sized18_valid {t : List WishD} (hv : validT t = 0) (hm : ∀ x ∈ t, x.meeting ≤ 9223372036854775807) : ∀ x ∈ t, Sized18 x := fun x hx => by
 have hw := wishes_mem (valid_wishes hv) hx
 have hb := (validT_ok hv).1
 simp only [tooLargeB, Bool.or_eq_false_iff, decide_eq_false_iff_not, List.any_eq_false] at hb
 have hb2 := hb.2 x hx
 simp only [Bool.or_eq_true, decide_eq_true_eq, List.any_eq_true, not_or, not_exists, not_and] at hb2
 simp only [wishOkB, Bool.and_eq_true, decide_eq_true_eq, List.all_eq_true] at hw
 have hmt : M18 x.meeting := ⟨by omega, hm x hx⟩
 have hp := people_m18 hw.1.1.1
 have ho : ∀ o ∈ x.opts, M18 o.room ∧ ∀ s ∈ o.spans, M18 s.1 ∧ M18 s.2 := fun o ho => by
  have ho2 := hw.2 o ho
  simp only [optOkB, Bool.and_eq_true, decide_eq_true_eq] at ho2
  exact ⟨by unfold M18; omega, normal_m18 ho2.2⟩
 refine ⟨⟨hmt.i64, fun p h => (hp p h).i64, by omega, fun o h => ?_, by omega⟩, hmt, hp, ho⟩
 have := hb2.2 o h
 exact ⟨(ho o h).1.i64, fun s hs => ⟨((ho o h).2 s hs).1.i64, ((ho o h).2 s hs).2.i64⟩, by omega⟩
def RawCon (X : List UInt8) (e : Int) (k : Nat) (v : Value) (_ : World) : Prop := (k = 14 ∨ k = 17 → v = .string ⟨X.toArray⟩) ∧ (k = 23 ∨ k = 26 → v = .int .i64 e)
set_option maxHeartbeats 12800000 in
set_option maxRecDepth 100000 in
theorem coreRawMatchesReference_calls (vt : Value) (t : List WishD) (vs : Value) (l : List Int) (w : World) (ht : TaskB w vt t) (hl : Ints w vs l) (hTab : Tab10 w) :
  Calls Tryz.prog 5 #[vt, vs] w fun e w' => e = .returned (.bool true) ∧ Ext w w' := by
 obtain ⟨wv, rfl, hw, hm⟩ := ht
 have hs18 := Lib.hid fun hv => sized18_valid (t := t) hv hm
 have hT := Lib.hid hw
 have hL := Lib.hid hl
 have hTb := Lib.hid hTab
 obtain ⟨ta, tc, rfl, htn, htc, htat⟩ := hw.open
 have htat' := Lib.hid htat
 obtain ⟨la, lc, rfl⟩ := hl.form
 obtain ⟨q, e0, hst⟩ : ∃ q e, Hid (StandsT t l = (q, e)) := ⟨_, _, rfl⟩
 obtain ⟨X, hX⟩ : ∃ X, Hid (textT t l = X) := ⟨_, rfl⟩
 obtain ⟨ce, hce⟩ : ∃ ce, Hid (coreCheckT t l [] = ce) := ⟨_, rfl⟩
 clear hw hm hl hTab htat
 by_cases h6 : 6 < t.length
 ·have d6 : decide ((6 : Int) < (t.length : Int)) = true := decide_eq_true (by omega)
  clear h6
  go_enter Tryz.func5, Tryz.ntmps5
  go_wp2_with fail
  refine (sanity34_calls _ (hTb.out.ext (by exact (by with_reducible repeat' (first | exact Ext.refl _ | assumption | refine Ext.drewN ?_ _ | refine Ext.drew ?_ | refine Ext.alloc ?_ _ | refine Ext.trans ?_ (by with_reducible assumption)))))).mono ?_
  rintro e w1 ⟨rfl, hx⟩
  have hE := Lib.hid (show Ext w w1 from Ext.trans (by exact (by with_reducible repeat' (first | exact Ext.refl _ | assumption | refine Ext.drewN ?_ _ | refine Ext.drew ?_ | refine Ext.alloc ?_ _ | refine Ext.trans ?_ (by with_reducible assumption)))) hx)
  have hB := Lib.hid ((Keep.of_ext (X := fun _ => False) hx).blk (show Blk (w.alloc (.cells #[.slice ta t.length tc] 27)) w.heap.size 27 #[.slice ta t.length tc] from blk_new' rfl rfl) id)
  have b0 : w1.cell? ⟨w.heap.size, 0, none⟩ = some (.slice ta t.length tc) := hB.out.cell 0
  have bl := hB.out.lt
  clear hx
  go_wp2
  go_ret
  exact ⟨rfl, hE.out⟩
 ·have d6 : decide ((6 : Int) < (t.length : Int)) = false := decide_eq_false (by omega)
  by_cases h10 : 10 < l.length
  ·have d10 : decide ((10 : Int) < (l.length : Int)) = true := decide_eq_true (by omega)
   clear h6 h10
   go_enter Tryz.func5, Tryz.ntmps5
   go_wp2_with fail
   refine (sanity34_calls _ (hTb.out.ext (by exact (by with_reducible repeat' (first | exact Ext.refl _ | assumption | refine Ext.drewN ?_ _ | refine Ext.drew ?_ | refine Ext.alloc ?_ _ | refine Ext.trans ?_ (by with_reducible assumption)))))).mono ?_
   rintro e w1 ⟨rfl, hx⟩
   have hE := Lib.hid (show Ext w w1 from Ext.trans (by exact (by with_reducible repeat' (first | exact Ext.refl _ | assumption | refine Ext.drewN ?_ _ | refine Ext.drew ?_ | refine Ext.alloc ?_ _ | refine Ext.trans ?_ (by with_reducible assumption)))) hx)
   have hB := Lib.hid ((Keep.of_ext (X := fun _ => False) hx).blk (show Blk (w.alloc (.cells #[.slice ta t.length tc] 27)) w.heap.size 27 #[.slice ta t.length tc] from blk_new' rfl rfl) id)
   have b0 : w1.cell? ⟨w.heap.size, 0, none⟩ = some (.slice ta t.length tc) := hB.out.cell 0
   have bl := hB.out.lt
   clear hx
   go_wp2
   go_ret
   exact ⟨rfl, hE.out⟩
  ·have d10 : decide ((10 : Int) < (l.length : Int)) = false := decide_eq_false (by omega)
   go_enter Tryz.func5, Tryz.ntmps5
   go_wp2_with fail
   refine (sanity34_calls _ (hTb.out.ext (by exact (by with_reducible repeat' (first | exact Ext.refl _ | assumption | refine Ext.drewN ?_ _ | refine Ext.drew ?_ | refine Ext.alloc ?_ _ | refine Ext.trans ?_ (by with_reducible assumption)))))).mono ?_
   rintro e w1 ⟨rfl, hx⟩
   have hE := Lib.hid (show Ext w w1 from Ext.trans (by exact (by with_reducible repeat' (first | exact Ext.refl _ | assumption | refine Ext.drewN ?_ _ | refine Ext.drew ?_ | refine Ext.alloc ?_ _ | refine Ext.trans ?_ (by with_reducible assumption)))) hx)
   have hB := Lib.hid ((Keep.of_ext (X := fun _ => False) hx).blk (show Blk (w.alloc (.cells #[.slice ta t.length tc] 27)) w.heap.size 27 #[.slice ta t.length tc] from blk_new' rfl rfl) id)
   have b0 : w1.cell? ⟨w.heap.size, 0, none⟩ = some (.slice ta t.length tc) := hB.out.cell 0
   have bl := hB.out.lt
   clear hx
   go_wp2_with fail
   go_loopw [6, 7] (fun vi _ wr => ∃ i : Nat, i ≤ t.length ∧ vi = .int .i64 i ∧ wr = w1) (fun vi _ _ => t.length - (intOf vi).toNat)
   case atStart => exact ⟨0, Nat.zero_le _, rfl, rfl⟩
   case round =>
    obtain ⟨i, hi, rfl, rfl⟩ := hrel
    by_cases h1 : i < t.length
    ·obtain ⟨b1, o1, x, pa, pc, oa, oc, rfl, hb1, _, ey, g1, g2, g3, gp, go⟩ := htat'.out i h1 wr hE.out
     obtain ⟨oa', oc', e, hon, hoc, hoat⟩ := go.open
     cases e
     have hoat' := Lib.hid hoat
     clear gp go hoat g1 ey
     by_cases h20 : 20 < x.opts.length
     ·have d20 : decide ((20 : Int) < (x.opts.length : Int)) = true := decide_eq_true (by omega)
      clear h20
      go_wp2
      go_ret
      exact ⟨rfl, hE.out⟩
     ·have d20 : decide ((20 : Int) < (x.opts.length : Int)) = false := decide_eq_false (by omega)
      by_cases h70 : 70 < x.people.length
      ·have d70 : decide ((70 : Int) < (x.people.length : Int)) = true := decide_eq_true (by omega)
       clear h70 h20
       go_wp2
       go_ret
       exact ⟨rfl, hE.out⟩
      ·have d70 : decide ((70 : Int) < (x.people.length : Int)) = false := decide_eq_false (by omega)
       clear h70
       go_wp2_with fail
       go_loopw [7] (fun vk wk => ∃ k : Nat, k ≤ x.opts.length ∧ vk = .int .i64 k ∧ wk = wr) (fun vk _ => x.opts.length - (intOf vk).toNat)
       case atStart => exact ⟨0, Nat.zero_le _, rfl, rfl⟩
       case round =>
        obtain ⟨k, hk, rfl, hwk⟩ := hrel
        subst hwk
        by_cases k1 : k < x.opts.length
        ·obtain ⟨b3, o3, o, sa, sc, rfl, hb3, _, eo, q1, q2, q3, gs⟩ := hoat'.out k k1 _ (Ext.refl _)
         clear q1 q2 gs eo
         by_cases s70 : 70 < o.spans.length
         ·have e70 : decide ((70 : Int) < (o.spans.length : Int)) = true := decide_eq_true (by omega)
          clear s70
          go_wp2
          go_ret
          exact ⟨rfl, hE.out⟩
         ·have e70 : decide ((70 : Int) < (o.spans.length : Int)) = false := decide_eq_false (by omega)
          clear s70
          go_wp2
          go_roundw
          case rel => first | exact ⟨k + 1, k1, by go_num, trivial⟩ | exact ⟨k + 1, k1, by go_num, rfl⟩
          case measure => simp [intOf]; omega
        ·go_wp2
         go_roundw
         case rel => first | exact ⟨i + 1, h1, by go_num, trivial⟩ | exact ⟨i + 1, h1, by go_num, rfl⟩
         case measure => simp [intOf]; omega
    ·go_wp2_with fail
     refine (Stands_calls (.slice ta t.length tc) (.slice la l.length lc) t l _ (hT.out.ext hE.out) (hL.out.ext hE.out)).mono ?_
     rw [hst.out]
     rintro e w2 ⟨rfl, hq⟩
     have hB2 := Lib.hid ((Keep.of_ext (X := fun _ => False) hq).blk hB.out id)
     have hE2 := Lib.hid (hE.out.trans hq)
     clear b0 bl hq
     have b0 : w2.cell? ⟨w.heap.size, 0, none⟩ = some (.slice ta t.length tc) := hB2.out.cell 0
     have bl := hB2.out.lt
     go_wp2_with fail
     refine (rStands_calls (.slice ta t.length tc) (.slice la l.length lc) t l _ (hT.out.ext hE2.out) (hL.out.ext hE2.out)).mono ?_
     rw [hst.out]
     rintro e w3 ⟨rfl, hq⟩
     have hB3 := Lib.hid ((Keep.of_ext (X := fun _ => False) hq).blk hB2.out id)
     have hE3 := Lib.hid (hE2.out.trans hq)
     clear b0 bl hq hB2 hE2 hB hE
     go_upto_region 16 with (fail)
     have z0 := After.cell (show w3.cell? ⟨w.heap.size, 0, none⟩ = some (.slice ta t.length tc) from hB3.out.cell 0)
     (refine wp_region_held [] [0, 1, 2, 3, 4, 5, 6, 7, 8, 9, 10, 11, 12, 13, 14, 15, 16, 17, 18, 19, 20, 21, 22, 23, 24, 25, 26, 27, 28, 29] [] (RawCon X ce) (by kernel_rfl) (by kernel_rfl) ?_; simp only [pickL]; with_reducible refine wpQuiet_nil ?_)
     (refine held_quiet [0, 1, 2, 3, 4, 5, 6, 7, 8, 9, 10, 11, 12, 13] [14, 15, 16, 17, 18, 19, 20, 21, 22, 23, 24, 25, 26, 27, 28, 29] (by kernel_rfl) (by kernel_rfl) ?_; simp only [pickL, List.drop]; (repeat (go_big_quiet_step (fail))); with_reducible refine wpQuiet_nil ?_)
     (refine held_call 14 [15, 16, 17, 18, 19, 20, 21, 22, 23, 24, 25, 26, 27, 28, 29] rfl (by kernel_rfl) 17 (#[.agg #[.slice ta t.length tc], .slice la l.length lc]) (fun W => by kernel_rfl) rfl ?_ ?_ ?_)
     ·exact fun _ _ _ _ h => h
     ·refine fun W hW _ => (text_calls _ _ t l W (hT.out.ext (hE3.out.trans hW)) (hL.out.ext (hE3.out.trans hW)) (fun hv x hx => (hs18.out hv x hx).sized) (hTb.out.ext (hE3.out.trans hW))).mono ?_
      rw [hX.out]
      rintro e W' ⟨S, rfl, hS, hxx⟩
      exact ⟨_, rfl, hxx, (fun _ => by rw [show S = _ from hS]), fun h => by rcases h with h | h <;> cases h⟩
     rintro v ⟨Y, hY, hCv⟩
     obtain rfl := hCv.1 (Or.inl rfl)
     clear hCv hY Y
     simp only [Act.put, List.setIfInBounds_toArray, List.set_cons_succ, List.set_cons_zero]
     (refine held_quiet [15, 16] [17, 18, 19, 20, 21, 22, 23, 24, 25, 26, 27, 28, 29] (by kernel_rfl) (by kernel_rfl) ?_; simp only [pickL, List.drop]; (repeat (go_big_quiet_step (fail))); with_reducible refine wpQuiet_nil ?_)
     (refine held_call 17 [18, 19, 20, 21, 22, 23, 24, 25, 26, 27, 28, 29] rfl (by kernel_rfl) 18 (#[.agg #[.slice ta t.length tc], .slice la l.length lc]) (fun W => by kernel_rfl) rfl ?_ ?_ ?_)
     ·exact fun _ _ _ _ h => h
     ·refine fun W hW _ => (rText_calls _ _ t l W (hT.out.ext (hE3.out.trans hW)) (hL.out.ext (hE3.out.trans hW)) hs18.out).mono ?_
      rw [hX.out]
      rintro e W' ⟨S, rfl, hS, hxx⟩
      exact ⟨_, rfl, hxx, (fun _ => by rw [show S = _ from hS]), fun h => by rcases h with h | h <;> cases h⟩
     rintro v ⟨Y, hY, hCv⟩
     obtain rfl := hCv.1 (Or.inr rfl)
     clear hCv hY Y
     simp only [Act.put, List.setIfInBounds_toArray, List.set_cons_succ, List.set_cons_zero]
     (refine held_quiet [18, 19, 20, 21, 22] [23, 24, 25, 26, 27, 28, 29] (by kernel_rfl) (by kernel_rfl) ?_; simp only [pickL, List.drop]; (repeat (go_big_quiet_step (fail))); with_reducible refine wpQuiet_nil ?_)
     (refine held_call 23 [24, 25, 26, 27, 28, 29] rfl (by kernel_rfl) 22 (#[.agg #[.slice ta t.length tc], .slice la l.length lc, .slice none 0 0]) (fun W => by kernel_rfl) rfl ?_ ?_ ?_)
     ·exact fun _ _ _ _ h => h
     ·refine fun W hW _ => (coreCheck_calls _ _ (.slice none 0 0) t l [] W (hT.out.ext (hE3.out.trans hW)) (hL.out.ext (hE3.out.trans hW)) (nodes_nilK W) (fun n hn => by cases hn)).mono ?_
      rw [hce.out]
      rintro e W' ⟨rfl, hxx⟩
      exact ⟨_, rfl, hxx, (fun h => by rcases h with h | h <;> cases h), fun _ => rfl⟩
     rintro v ⟨Y, hY, hCv⟩
     obtain rfl := hCv.2 (Or.inl rfl)
     clear hCv hY Y
     simp only [Act.put, List.setIfInBounds_toArray, List.set_cons_succ, List.set_cons_zero]
     (refine held_quiet [24, 25] [26, 27, 28, 29] (by kernel_rfl) (by kernel_rfl) ?_; simp only [pickL, List.drop]; (repeat (go_big_quiet_step (fail))); with_reducible refine wpQuiet_nil ?_)
     (refine held_call 26 [27, 28, 29] rfl (by kernel_rfl) 23 (#[.agg #[.slice ta t.length tc], .slice la l.length lc, .slice none 0 0]) (fun W => by kernel_rfl) rfl ?_ ?_ ?_)
     ·exact fun _ _ _ _ h => h
     ·refine fun W hW _ => (rCheckNil_calls _ _ t l W (hT.out.ext (hE3.out.trans hW)) (hL.out.ext (hE3.out.trans hW))).mono ?_
      rw [hce.out]
      rintro e W' ⟨rfl, hxx⟩
      exact ⟨_, rfl, hxx, (fun h => by rcases h with h | h <;> cases h), fun _ => rfl⟩
     rintro v ⟨Y, hY, hCv⟩
     obtain rfl := hCv.2 (Or.inr rfl)
     clear hCv hY Y
     simp only [Act.put, List.setIfInBounds_toArray, List.set_cons_succ, List.set_cons_zero]
     (refine held_quiet [27, 28, 29] [] (by kernel_rfl) (by kernel_rfl) ?_; simp only [pickL, List.drop]; (repeat (go_big_quiet_step (fail))); with_reducible refine wpQuiet_nil ?_)
     intro w9 hx9 hfc htk Q0 hQ0
     simp only [pickL]
     have hE9 := Lib.hid (hE3.out.trans hx9)
     clear hfc htk z0 hx9
     refine hQ0 _ _ ?_
     clear hQ0 Q0
     go_wp2
     go_ret
     exact ⟨rfl, hE9.out⟩
end Go.Proofs.YtjglidlmpjmjeaaGreatDoor
