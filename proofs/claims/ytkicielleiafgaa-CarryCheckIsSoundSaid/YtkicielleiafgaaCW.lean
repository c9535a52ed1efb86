/- The law's 'calm', walked. -/
import Derived.Test.YtkicielleiafgaaCQ
namespace Go.Proofs.Ytkicielleiafgaa
open Go.RowKit

set_option maxHeartbeats 1600000 in
set_option maxRecDepth 100000 in
theorem calm_calls (wv sv : Value) (t : List WishD) (st : List Int) (w : World) (h : Wishes w wv t) (hs : Ints w sv st) :
    Calls Try.prog 33 #[.agg #[wv], sv] w fun e w' => e = .returned (.bool (calmB t st)) ∧ Ext w w' := by
  have hT := Lib.hid h
  obtain ⟨ta, tc, rfl⟩ := h.form
  obtain ⟨sa, sc, rfl, hn, hc, sat⟩ := hs.open
  have sat' := Lib.hid sat
  clear h hs sat
  go_enter Try.func33, Try.ntmps33
  go_upto_region 1 with (fail)
  refine wp_abs (S := fun W => Hid (Ext w W) ∧ Hid (Blk W w.heap.size 27 #[.slice ta t.length tc])) ?_ ?_
  · exact ⟨Lib.hid (by exact (by repeat' (first | (with_reducible exact Ext.refl _) | (with_reducible assumption) | (with_reducible refine Ext.drewN ?_ _) | (with_reducible refine Ext.drew ?_) | (with_reducible refine Ext.alloc ?_ _) | (with_reducible refine Ext.trans ?_ (by with_reducible assumption))))), blk_new' rfl rfl⟩
  rintro W ⟨hW, bp⟩
  have tb : W.cell? ⟨w.heap.size, 0, none⟩ = some (.slice ta t.length tc) := bp.out.cell 0
  clear bp
  revert tb
  generalize w.heap.size = bt
  intro tb
  go_wp2_with fail
  go_loopw [5, 6] (fun v5 _ wr => ∃ i : Nat, i ≤ st.length ∧ v5 = .int .i64 i ∧ Hid (Ext W wr) ∧ Hid (∀ a, a < i → ∀ b, b < a → busyB t st a b = false)) (fun vi _ _ => st.length - (intOf vi).toNat)
  case atStart => exact ⟨0, by omega, rfl, Lib.hid (Ext.refl _), Lib.hid fun a h => by omega⟩
  case round =>
    obtain ⟨i, hi, rfl, hxo, hA⟩ := hrel
    by_cases h1 : i < st.length
    · obtain ⟨b1, o1, x, rfl, hb1, _, ex, g0⟩ := sat'.out i h1 wr (hW.out.trans hxo.out)
      obtain ⟨wA, hwA⟩ : ∃ wA : World, Hid (wr = wA) := ⟨_, rfl⟩
      rw [hwA.out] at hxo g0 hb1
      rw [hwA.out]
      clear hwA
      have tbA := hxo.out.cell tb
      go_wp2_with fail
      go_loopw [6] (fun v6 wr => ∃ k : Nat, k ≤ i ∧ v6 = .int .i64 k ∧ Hid (Ext wA wr) ∧ Hid (∀ b, b < k → busyB t st i b = false)) (fun vk _ => i - (intOf vk).toNat)
      case atStart => exact ⟨0, by omega, rfl, Lib.hid (Ext.refl _), Lib.hid fun b h => by omega⟩
      case round =>
        obtain ⟨k, hk, rfl, hx, hB⟩ := hrel
        by_cases h2 : k < i
        · obtain ⟨b2, o2, y, e2, hb2, _, ey, g1⟩ := sat'.out k (by omega) wr (hW.out.trans (hxo.out.trans hx.out))
          cases e2
          have hbz : Hid (busyB t st i k = ((decide (y ≠ 0) || decide (x ≠ 0)) && clashT t i x k y)) := by show _ = _; unfold busyB; rw [atI_some ex.out, atI_some ey.out]
          obtain ⟨z, hz⟩ : ∃ z, Hid (clashT t i x k y = z) := ⟨_, rfl⟩
          rw [hz.out] at hbz
          have hC : Hid (∀ X, Ext wr X → Calls Try.prog 20 #[.agg #[.slice ta t.length tc], .int .i64 i, .int .i64 x, .int .i64 k, .int .i64 y] X fun e w' => e = .returned (.bool z) ∧ Ext X w') := fun X hX => by
            have := clashP_calls (.slice ta t.length tc) t i x k y X (hT.out.ext (hW.out.trans (hxo.out.trans (hx.out.trans hX))))
            rwa [hz.out] at this
          have c0 := hx.out.cell tbA
          have c1 := hx.out.cell g0
          have z0 := After.cell c0
          have z1 := After.cell c1
          have z2 := After.cell g1
          clear c0 c1 hz ey
          by_cases hx0 : x = 0
          · have d0 : (x != 0) = false := by simp [hx0]
            by_cases hy0 : y = 0
            · have d1 : (y != 0) = false := by simp [hy0]
              have hbb : Hid (busyB t st i k = false) := by show _ = _; rw [hbz.out, hx0, hy0]; rfl
              clear hbz hx0 hy0
              go_wp2_with fail
              refine wp_region_after (by kernel_rfl) (by kernel_rfl) ?_
              repeat (go_big_quiet_step (fail))
              refine wpQuiet_nil ?_
              rintro _ ⟨y, rfl⟩
              have hy := Lib.hid (hx.out.trans y.ext)
              generalize y.world = Y at hy ⊢
              clear z0 z1 z2 hC
              clear hx
              have hB' : Hid (∀ b, b < k + 1 → busyB t st i b = false) := Lib.hid fun b hb => by
                rcases Nat.lt_succ_iff_lt_or_eq.1 hb with h | rfl
                · exact hB.out b h
                · exact hbb.out
              clear hB hbb
              go_wp2
              go_roundw
              case rel => exact ⟨k + 1, by omega, by go_num, hy, hB'⟩
              case measure => simp [intOf]; omega
            · have d1 : (y != 0) = true := by simp [hy0]
              have hbb : Hid (busyB t st i k = z) := by show _ = _; rw [hbz.out]; simp [hy0]
              clear hbz hx0 hy0
              cases z with
              | true =>
                have R : Hid (calmB t st = false) := by
                  show _ = _
                  cases hcm : calmB t st with
                  | false => rfl
                  | true =>
                    have := calm_iff.1 hcm i k h1 (by omega)
                    rw [hbb.out] at this
                    cases this
                clear hB hbb
                go_wp2_with fail
                refine wp_region_after (by kernel_rfl) (by kernel_rfl) ?_
                repeat (go_big_quiet_step (exact After.call _ (hC.out _ (After.ext _))))
                refine wpQuiet_nil ?_
                rintro _ ⟨y, rfl⟩
                have hy := Lib.hid (hx.out.trans y.ext)
                generalize y.world = Y at hy ⊢
                clear z0 z1 z2 hC
                clear hx
                go_wp2
                go_ret
                rw [R.out]
                exact ⟨rfl, hW.out.trans (hxo.out.trans hy.out)⟩
              | false =>
                go_wp2_with fail
                refine wp_region_after (by kernel_rfl) (by kernel_rfl) ?_
                repeat (go_big_quiet_step (exact After.call _ (hC.out _ (After.ext _))))
                refine wpQuiet_nil ?_
                rintro _ ⟨y, rfl⟩
                have hy := Lib.hid (hx.out.trans y.ext)
                generalize y.world = Y at hy ⊢
                clear z0 z1 z2 hC
                clear hx
                have hB' : Hid (∀ b, b < k + 1 → busyB t st i b = false) := Lib.hid fun b hb => by
                  rcases Nat.lt_succ_iff_lt_or_eq.1 hb with h | rfl
                  · exact hB.out b h
                  · exact hbb.out
                clear hB hbb
                go_wp2
                go_roundw
                case rel => exact ⟨k + 1, by omega, by go_num, hy, hB'⟩
                case measure => simp [intOf]; omega
          · have d0 : (x != 0) = true := by simp [hx0]
            have hbb : Hid (busyB t st i k = z) := by show _ = _; rw [hbz.out]; simp [hx0]
            clear hbz hx0
            cases z with
            | true =>
              have R : Hid (calmB t st = false) := by
                show _ = _
                cases hcm : calmB t st with
                | false => rfl
                | true =>
                  have := calm_iff.1 hcm i k h1 (by omega)
                  rw [hbb.out] at this
                  cases this
              clear hB hbb
              go_wp2_with fail
              refine wp_region_after (by kernel_rfl) (by kernel_rfl) ?_
              repeat (go_big_quiet_step (exact After.call _ (hC.out _ (After.ext _))))
              refine wpQuiet_nil ?_
              rintro _ ⟨y, rfl⟩
              have hy := Lib.hid (hx.out.trans y.ext)
              generalize y.world = Y at hy ⊢
              clear z0 z1 z2 hC
              clear hx
              go_wp2
              go_ret
              rw [R.out]
              exact ⟨rfl, hW.out.trans (hxo.out.trans hy.out)⟩
            | false =>
              go_wp2_with fail
              refine wp_region_after (by kernel_rfl) (by kernel_rfl) ?_
              repeat (go_big_quiet_step (exact After.call _ (hC.out _ (After.ext _))))
              refine wpQuiet_nil ?_
              rintro _ ⟨y, rfl⟩
              have hy := Lib.hid (hx.out.trans y.ext)
              generalize y.world = Y at hy ⊢
              clear z0 z1 z2 hC
              clear hx
              have hB' : Hid (∀ b, b < k + 1 → busyB t st i b = false) := Lib.hid fun b hb => by
                rcases Nat.lt_succ_iff_lt_or_eq.1 hb with h | rfl
                · exact hB.out b h
                · exact hbb.out
              clear hB hbb
              go_wp2
              go_roundw
              case rel => exact ⟨k + 1, by omega, by go_num, hy, hB'⟩
              case measure => simp [intOf]; omega
        · have hA' : Hid (∀ a, a < i + 1 → ∀ b, b < a → busyB t st a b = false) := Lib.hid fun a ha b hb => by
            rcases Nat.lt_succ_iff_lt_or_eq.1 ha with h | rfl
            · exact hA.out a h b hb
            · exact hB.out b (by omega)
          have hE := Lib.hid (hxo.out.trans hx.out)
          clear hA hB hx hxo g0 tbA
          go_wp2
          go_roundw
          case rel => exact ⟨i + 1, by omega, by go_num, hE, hA'⟩
          case measure => simp [intOf]; omega
    · have R : Hid (calmB t st = true) := by
        show _ = _
        simp only [calmB, List.all_eq_true, List.mem_range, Bool.not_eq_true']
        exact fun a ha b hb => hA.out a (by omega) b hb
      go_wp2
      go_ret
      rw [R.out]
      exact ⟨rfl, hW.out.trans hxo.out⟩
end Go.Proofs.Ytkicielleiafgaa
