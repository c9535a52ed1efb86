/- Walks of the reference of plans: Harm. -/
import Derived.Test.YtkicielleiafgaaRI
namespace Go.Proofs.Ytkicielleiafgaa
open Go.RowKit

set_option maxHeartbeats 1600000 in
theorem rHarm_calls (wv pv : Value) (t : List WishD) (pick : List Int) (w : World) (h : Wishes w wv t) (hp : Ints w pv pick) :
    Calls Try.prog 85 #[.agg #[wv], pv] w fun e w' => e = .returned (.tuple #[.int .i64 (harmT t pick).1, .int .i64 (harmT t pick).2]) ∧ Ext w w' := by
  have hT := Lib.hid h
  have hP := Lib.hid hp
  obtain ⟨ta, tc, rfl, hn, hc, hat⟩ := h.open
  obtain ⟨pa, pc, rfl, hpn, hpc, hpat⟩ := hp.open
  clear h hp
  have hval : ∀ z, validT t = z → ∀ W, Ext w W → Calls Try.prog 61 #[.agg #[.slice ta t.length tc]] W fun e w' => e = .returned (.int .i64 z) ∧ Ext W w' :=
    fun z hz W hW => hz ▸ rValid_calls _ t W (hT.out.ext hW)
  have bad : ∀ z, validT t = z → (z == 0) = false → Calls Try.prog 85 #[.agg #[.slice ta t.length tc], .slice pa pick.length pc] w fun e w' => e = .returned (.tuple #[.int .i64 (harmT t pick).1, .int .i64 (harmT t pick).2]) ∧ Ext w w' := by
    intro z hz hz0
    have R : Hid (harmT t pick = (0, z)) := by
      show _ = _
      unfold harmT
      rw [if_neg (by rw [hz]; intro e; rw [e] at hz0; cases hz0), hz]
    have hc1 := Lib.hid (hval z hz)
    have hz1 : (z != 0) = true := by simpa using hz0
    clear hval hz hat hpat
    go_enter Try.func85, Try.ntmps85
    go_wp2_with fail
    refine (hc1.out _ (by repeat' (first | (with_reducible exact Ext.refl _) | (with_reducible assumption) | (with_reducible refine Ext.drewN ?_ _) | (with_reducible refine Ext.drew ?_) | (with_reducible refine Ext.alloc ?_ _) | (with_reducible refine Ext.trans ?_ (by with_reducible assumption))))).mono ?_
    rintro e w1 ⟨rfl, hx1⟩
    go_wp2
    go_ret2
    rw [R.out]
    exact ⟨rfl, ((Ext.refl _).alloc _).trans hx1⟩
  rcases validT_cases t with hv | hv | hv
  rotate_left
  · exact bad _ hv rfl
  · exact bad _ hv rfl
  have hc1 := Lib.hid (hval _ hv)
  have hv' := Lib.hid hv
  clear hval hv bad
  have hch : Hid (∀ W, Ext w W → Calls Try.prog 83 #[.agg #[.slice ta t.length tc], .slice pa pick.length pc] W fun e w' => e = .returned (.bool (choiceB t pick)) ∧ Ext W w') :=
    fun W hW => rIsChoice_calls _ _ t pick W (hT.out.ext hW) (hP.out.ext hW)
  go_enter Try.func85, Try.ntmps85
  go_wp2_with fail
  refine (hc1.out _ (by repeat' (first | (with_reducible exact Ext.refl _) | (with_reducible assumption) | (with_reducible refine Ext.drewN ?_ _) | (with_reducible refine Ext.drew ?_) | (with_reducible refine Ext.alloc ?_ _) | (with_reducible refine Ext.trans ?_ (by with_reducible assumption))))).mono ?_
  rintro e w1 ⟨rfl, hx1⟩
  have c0 : w1.cell? ⟨w.heap.size, 0, none⟩ = some (.slice ta t.length tc) := hx1.cell (by simp)
  have hxw := ((Ext.refl w).alloc (.cells #[.slice ta t.length tc] 27)).trans hx1
  clear hx1 hc1
  go_wp2_with fail
  refine (hch.out _ hxw).mono ?_
  rintro e w2 ⟨rfl, hx2⟩
  cases hb : choiceB t pick with
  | false =>
    have R : Hid (harmT t pick = (0, 1)) := by show _ = _; simp [harmT, hb, hv'.out]
    have hb' := Lib.hid hb
    clear hb hat hpat
    go_wp2
    go_ret2
    rw [R.out]
    exact ⟨rfl, hxw.trans hx2⟩
  | true =>
    have R0 : Hid (harmT t pick = (sumH t pick, 0)) := by show _ = _; simp [harmT, hb, hv'.out]
    have hb' := Lib.hid hb
    have hlen := choiceB_len hb
    have hle : pick.length ≤ t.length := by omega
    have hge : t.length ≤ pick.length := by omega
    have ht512 := tooLarge_len (validT_ok hv'.out).1
    clear hb hlen
    have c1 := hx2.cell c0
    have hxw2 := hxw.trans hx2
    clear c0
    go_wp2_with fail
    go_loopw [7, 8] (fun vn vi wr => ∃ (i : Nat) (n : Int), i ≤ t.length ∧ vi = .int .i64 i ∧ vn = .int .i64 n ∧ 0 ≤ n ∧ n ≤ 1000000 * i ∧ Ext w2 wr ∧ Hid (sumH t pick = n + sumH (t.drop i) (pick.drop i))) (fun _ vi _ => t.length - (intOf vi).toNat)
    case atStart => exact ⟨0, 0, by omega, rfl, rfl, by omega, by omega, Ext.refl _, by show _ = _; simp⟩
    case round =>
      obtain ⟨i, n, hi, rfl, rfl, hn0, hn1, hx, hF⟩ := hrel
      have d0 := hx.cell c1
      have hxr := hxw2.trans hx
      by_cases h1' : i < pick.length
      · have h1 : i < t.length := by omega
        obtain ⟨⟨x', o⟩, hox⟩ := Option.isSome_iff_exists.1 (optOf_of_choice hb'.out i h1)
        obtain ⟨m, hx1', hx2', hx3'⟩ := optOf_spec hox
        dsimp only at hx1' hx3'
        obtain ⟨b1, o1, x, xa, xc, oa, oc, rfl, hb1, dx, ex, g1, g2, g3, gp, go⟩ := hat i h1 wr hxr
        obtain ⟨b2, o2, k, rfl, hb2, dk, ek, k1⟩ := hpat i h1' wr hxr
        obtain rfl : x' = x := Option.some.inj (hx1'.symm.trans ex.out)
        obtain rfl : (m : Int) = k := Option.some.inj (hx2'.symm.trans ek.out)
        have lm : m < x'.opts.length := (List.getElem?_eq_some_iff.1 hx3').1
        have lo := go.len
        obtain ⟨_, _, e0, _, _, oat⟩ := go.open
        cases e0
        obtain ⟨b3, o3, o', sa, sc, rfl, hb3, _, eo, p1, p2, p3, ps⟩ := oat m lm wr (Ext.refl _)
        obtain rfl : o = o' := Option.some.inj (hx3'.symm.trans eo.out)
        have hm := optOk_harm (wishOk_opt ((validT_ok hv'.out).2.1 _ (List.mem_of_getElem? ex.out)) (List.mem_of_getElem? hx3'))
        have R : Hid (sumH t pick = (n + o.harm) + sumH (t.drop (i + 1)) (pick.drop (i + 1))) := by
          show _ = _
          rw [hF.out, sumH_step dx.out dk.out]
          simp only [Int.toNat_natCast, hx3', Option.getD_some]
          omega
        obtain ⟨hm1, hm2⟩ := hm
        generalize o.harm = q at *
        clear gp go oat ps hat hpat hF hox hx1' hx2' hx3' hb2 hb3 eo ek
        go_wp2_with fail
        go_quiet (fail)
        go_wp2
        go_roundw
        case rel => exact ⟨i + 1, n + q, by omega, by go_num, rfl, by omega, by omega, hx.drewN _, R⟩
        case measure => simp [intOf]; omega
      · have R : Hid (harmT t pick = (n, 0)) := by show _ = _; rw [R0.out, hF.out, List.drop_of_length_le (by omega)]; simp [sumH]
        clear hF hat hpat
        go_wp2
        go_ret2
        rw [R.out]
        exact ⟨rfl, hxr⟩

end Go.Proofs.Ytkicielleiafgaa
