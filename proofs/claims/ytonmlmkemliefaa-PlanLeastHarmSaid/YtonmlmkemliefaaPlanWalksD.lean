/- Walk of package plan: Valid. -/
import Derived.Test.YtonmlmkemliefaaPlanWalksC
namespace Go.Proofs.Ytonmlmkemliefaa
open Go.RowKit

def prevM (l : List WishD) (i : Nat) : Option Int := if i = 0 then none else l[i - 1]?.map (·.meeting)
theorem prevM_zero (l : List WishD) : prevM l 0 = none := rfl
theorem prevM_succ {l : List WishD} {i : Nat} {x : WishD} (h : l[i]? = some x) : prevM l (i + 1) = some x.meeting := by simp [prevM, h]
theorem prevM_pos {l : List WishD} {i : Nat} {x : WishD} (h : 0 < i) (hl : l[i - 1]? = some x) : prevM l i = some x.meeting := by
  simp only [prevM]; rw [if_neg (by omega), hl]; rfl
theorem wishesB_bad {l : List WishD} {i : Nat} {x : WishD} (d : l.drop i = x :: l.drop (i + 1)) (h : wishOkB x = false) (p : Option Int) : wishesB p (l.drop i) = false := by
  rw [d]; cases p <;> simp only [wishesB, h] <;> rfl
theorem wishesB_step0 {l : List WishD} {i : Nat} {x : WishD} (d : l.drop i = x :: l.drop (i + 1)) (h : wishOkB x = true) : wishesB none (l.drop i) = wishesB (some x.meeting) (l.drop (i + 1)) := by
  rw [d]; simp [wishesB, h]
theorem wishesB_step {l : List WishD} {i : Nat} {x : WishD} {e : Int} (d : l.drop i = x :: l.drop (i + 1)) (h : wishOkB x = true) (he : e < x.meeting) : wishesB (some e) (l.drop i) = wishesB (some x.meeting) (l.drop (i + 1)) := by
  rw [d]; simp [wishesB, h, he]
theorem wishesB_near {l : List WishD} {i : Nat} {x : WishD} {e : Int} (d : l.drop i = x :: l.drop (i + 1)) (he : x.meeting ≤ e) : wishesB (some e) (l.drop i) = false := by
  rw [d]; simp [wishesB]; intro _ h'; omega

set_option maxHeartbeats 1600000 in
theorem valid_calls (wv : Value) (t : List WishD) (w : World) (h : Wishes w wv t) :
    Calls Try.prog 26 #[.agg #[wv]] w fun e w' => e = .returned (.int .i64 (validT t)) ∧ Ext w w' := by
  have hT := Lib.hid h
  obtain ⟨a, c, rfl, hn, hc, hat⟩ := h.open
  clear h
  cases hb : tooLargeB t with
  | true =>
    have R : Hid (validT t = 2) := by show _ = _; simp [validT, hb]
    have hb' := Lib.hid hb
    clear hb
    go_enter Try.func26, Try.ntmps26
    go_wp2_with fail
    refine (tooLarge_calls _ t _ (hT.out.ext (by repeat' (first | (with_reducible exact Ext.refl _) | (with_reducible assumption) | (with_reducible refine Ext.drewN ?_ _) | (with_reducible refine Ext.drew ?_) | (with_reducible refine Ext.alloc ?_ _) | (with_reducible refine Ext.trans ?_ (by with_reducible assumption)))))).mono ?_
    rintro e w1 ⟨rfl, hx1⟩
    rw [hb'.out]
    go_wp2
    go_ret
    rw [R.out]
    exact ⟨rfl, ((Ext.refl _).alloc _).trans hx1⟩
  | false =>
    have R0 : Hid (validT t = if wishesB none t && decide (0 < t.length) then 0 else 1) := by show _ = _; simp [validT, hb]
    have hb' := Lib.hid hb
    clear hb
    go_enter Try.func26, Try.ntmps26
    go_wp2_with fail
    refine (tooLarge_calls _ t _ (hT.out.ext (by repeat' (first | (with_reducible exact Ext.refl _) | (with_reducible assumption) | (with_reducible refine Ext.drewN ?_ _) | (with_reducible refine Ext.drew ?_) | (with_reducible refine Ext.alloc ?_ _) | (with_reducible refine Ext.trans ?_ (by with_reducible assumption)))))).mono ?_
    rintro e w1 ⟨rfl, hx1⟩
    rw [hb'.out]
    have c0 : w1.cell? ⟨w.heap.size, 0, none⟩ = some (.slice a t.length c) := hx1.cell (by simp)
    have hxw := ((Ext.refl w).alloc (.cells #[.slice a t.length c] 26)).trans hx1
    clear hx1
    go_wp2_with fail
    go_loopw [10] (fun vi wr => ∃ i : Nat, i ≤ t.length ∧ vi = .int .i64 i ∧ Ext w1 wr ∧ Hid (wishesB none t = wishesB (prevM t i) (t.drop i))) (fun vi _ => t.length - (intOf vi).toNat)
    case atStart => exact ⟨0, by omega, rfl, Ext.refl _, rfl⟩
    case round =>
      obtain ⟨i, hi, rfl, hx, hF⟩ := hrel
      have d0 := hx.cell c0
      have hxr := hxw.trans hx
      by_cases h1 : i < t.length
      · obtain ⟨b1, o1, x, pa, pc, oa, oc, rfl, hb1, dx, ex, g1, g2, g3, gp, go⟩ := hat i h1 wr hxr
        have hB : w.heap.size < wr.heap.size := World.block_lt_of_cell? _ _ d0
        have prev : i = 0 ∨ ∃ (o0 : Nat) (x0 : WishD), 0 < i ∧ o0 = o1 + (i - 1) * 3 ∧ Hid (prevM t i = some x0.meeting) ∧ wr.cell? ⟨b1, o0, none⟩ = some (.int .i64 x0.meeting) := by
          by_cases h4 : i = 0
          · exact Or.inl h4
          · obtain ⟨b2, o2, x0, _, _, _, _, e2, _, _, ex0, g4, _⟩ := hat (i - 1) (by omega) wr hxr
            cases e2
            exact Or.inr ⟨_, x0, by omega, rfl, prevM_pos (by omega) ex0.out, g4⟩
        clear hat
        have hv : Hid (∀ W, Ext wr W → Calls Try.prog 50 #[.agg #[.int .i64 x.meeting, .slice pa x.people.length pc, .slice oa x.opts.length oc]] W fun e w' => e = .returned (.bool (wishOkB x)) ∧ Ext W w') :=
          fun W hW => validWish_calls _ x W ⟨_, _, rfl, gp.ext hW, go.ext hW⟩
        clear gp go
        go_wp2_with fail
        refine wp_abs (S := fun W => Ext wr W ∧ W.cell? ⟨wr.heap.size, 0, none⟩ = some (.int .i64 x.meeting) ∧ W.cell? ⟨wr.heap.size, 1, none⟩ = some (.slice pa x.people.length pc) ∧ W.cell? ⟨wr.heap.size, 2, none⟩ = some (.slice oa x.opts.length oc))
          ⟨(by repeat' (first | (with_reducible exact Ext.refl _) | (with_reducible assumption) | (with_reducible refine Ext.drewN ?_ _) | (with_reducible refine Ext.drew ?_) | (with_reducible refine Ext.alloc ?_ _) | (with_reducible refine Ext.trans ?_ (by with_reducible assumption)))), by simp, by simp, by simp⟩ ?_
        rintro W2 ⟨hx2, k0, k1, k2⟩
        have a0 := After.cell k0
        have a1 := After.cell k1
        have a2 := After.cell k2
        have b0 := After.cell (hx2.cell d0)
        clear k0 k1 k2 d0
        cases hok : wishOkB x with
        | false =>
          have R : Hid (validT t = 1) := by show _ = _; rw [R0.out, hF.out, wishesB_bad dx.out hok]; rfl
          rw [hok] at hv
          have hok' := Lib.hid hok
          clear hok hF prev
          refine wp_region_after (by kernel_rfl) (by kernel_rfl) ?_
          repeat (go_big_quiet_step (exact After.call _ (hv.out _ (hx2.trans (After.ext _)))))
          refine wpQuiet_nil ?_
          rintro _ ⟨y, rfl⟩
          go_wp2
          go_ret
          rw [R.out]
          exact ⟨rfl, (hxr.trans hx2).trans y.ext⟩
        | true =>
          rw [hok] at hv
          rcases prev with h4 | ⟨o0, x0, hpos, ho0, hpm, g4⟩
          · have R : Hid (wishesB none t = wishesB (prevM t (i + 1)) (t.drop (i + 1))) := by
              show _ = _
              rw [hF.out, prevM_succ ex.out, h4, prevM_zero, wishesB_step0 (by have := dx.out; rwa [h4] at this) hok]
            have hok' := Lib.hid hok
            have hd3 : decide (0 < i) = false := by simp; omega
            clear hok hF h4
            refine wp_region_after (by kernel_rfl) (by kernel_rfl) ?_
            repeat (go_big_quiet_step (exact After.call _ (hv.out _ (hx2.trans (After.ext _)))))
            refine wpQuiet_nil ?_
            rintro _ ⟨y, rfl⟩
            go_wp2
            go_roundw
            case rel => exact ⟨i + 1, by omega, by go_num, (hx.trans hx2).trans y.ext, R⟩
            case measure => simp [intOf]; omega
          · have b1' := After.cell (hx2.cell g4)
            subst ho0
            have hd3 : decide (0 < i) = true := by simp; omega
            have hi1 : 1 ≤ i := by omega
            have hi2 : (1 : Int) ≤ (i : Int) := by omega
            have hi3 : (i : Int) - 1 < (t.length : Int) := by omega
            clear g4
            by_cases h5 : x.meeting ≤ x0.meeting
            · have R : Hid (validT t = 1) := by show _ = _; rw [R0.out, hF.out, hpm.out, wishesB_near dx.out h5]; rfl
              have hd5 : decide (x.meeting ≤ x0.meeting) = true := by simpa using h5
              have hok' := Lib.hid hok
              clear hok hF hpm
              refine wp_region_after (by kernel_rfl) (by kernel_rfl) ?_
              repeat (go_big_quiet_step (exact After.call _ (hv.out _ (hx2.trans (After.ext _)))))
              refine wpQuiet_nil ?_
              rintro _ ⟨y, rfl⟩
              go_wp2
              go_ret
              rw [R.out]
              exact ⟨rfl, (hxr.trans hx2).trans y.ext⟩
            · have R : Hid (wishesB none t = wishesB (prevM t (i + 1)) (t.drop (i + 1))) := by
                show _ = _
                rw [hF.out, prevM_succ ex.out, hpm.out, wishesB_step dx.out hok (by omega)]
              have hd5 : decide (x.meeting ≤ x0.meeting) = false := by simpa using h5
              have hok' := Lib.hid hok
              clear hok hF hpm
              refine wp_region_after (by kernel_rfl) (by kernel_rfl) ?_
              repeat (go_big_quiet_step (exact After.call _ (hv.out _ (hx2.trans (After.ext _)))))
              refine wpQuiet_nil ?_
              rintro _ ⟨y, rfl⟩
              go_wp2
              go_roundw
              case rel => exact ⟨i + 1, by omega, by go_num, (hx.trans hx2).trans y.ext, R⟩
              case measure => simp [intOf]; omega
      · have hW : wishesB none t = true := by rw [hF.out, List.drop_of_length_le (by omega)]; cases prevM t i <;> rfl
        by_cases h0 : t.length = 0
        · have R : Hid (validT t = 1) := by show _ = _; rw [R0.out, hW, h0]; rfl
          have hd : ((t.length : Int) == 0) = true := by rw [beq_iff_eq]; omega
          clear hF hW hat h0
          go_wp2
          go_ret
          rw [R.out]
          exact ⟨rfl, hxr⟩
        · have R : Hid (validT t = 0) := by show _ = _; rw [R0.out, hW, decide_eq_true (show 0 < t.length by omega)]; rfl
          have hd : ((t.length : Int) == 0) = false := by rw [beq_eq_false_iff_ne]; omega
          clear hF hW hat h0
          go_wp2
          go_ret
          rw [R.out]
          exact ⟨rfl, hxr⟩

end Go.Proofs.Ytonmlmkemliefaa
