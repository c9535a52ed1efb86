/- Walks of the reference of plans: free, Lawful. -/
import Derived.Test.YtkicielleiafgaaRJ
import Derived.Test.YtkicielleiafgaaRH
namespace Go.Proofs.Ytkicielleiafgaa
open Go.RowKit

theorem clashT_at {t : List WishD} {p : List Int} (hv : validT t = 0) (hc : choiceB t p = true) {i d : Nat} (hne : i ≠ d) (hi : i < t.length) (hd : d < t.length) {k l : Int} (hk : p[i]? = some k) (hl : p[d]? = some l) :
    clashT t i k d l = clashAt t p i d := by
  obtain ⟨⟨x, o⟩, hx⟩ := Option.isSome_iff_exists.1 (optOf_of_choice hc i hi)
  obtain ⟨⟨y, q⟩, hy⟩ := Option.isSome_iff_exists.1 (optOf_of_choice hc d hd)
  obtain ⟨n, h1, h2, h3⟩ := optOf_spec hx
  obtain ⟨m, h4, h5, h6⟩ := optOf_spec hy
  obtain rfl : k = n := Option.some.inj (hk.symm.trans h2)
  obtain rfl : l = m := Option.some.inj (hl.symm.trans h5)
  rw [clashT_eq hv hne h1 h4 h3 h6]
  simp only [clashAt, hx, hy]
set_option maxHeartbeats 3200000 in
set_option maxRecDepth 100000 in
theorem rFree_calls (wv pv : Value) (t : List WishD) (p : List Int) (w : World) (h : Wishes w wv t) (hp : Ints w pv p) (hv : validT t = 0) (hc : choiceB t p = true) :
    Calls Try.prog 84 #[.agg #[wv], pv] w fun e w' => e = .returned (.bool (freeB t p)) ∧ Ext w w' := by
  have hT := Lib.hid h
  obtain ⟨ta, tc, rfl, hn, hcc, _⟩ := h.open
  obtain ⟨pa, pc, rfl, hpn, hpc, hpat⟩ := hp.open
  have hlen := Lib.hid (choiceB_len hc)
  have hv' := Lib.hid hv
  have hc' := Lib.hid hc
  clear h hp hv hc
  go_enter Try.func84, Try.ntmps84
  go_wp2_with fail
  refine wp_abs (S := fun W => Hid (Ext w W) ∧ Hid (Blk W w.heap.size 27 #[.slice ta t.length tc])) ?_ ?_
  · exact ⟨Lib.hid (by exact (by repeat' (first | (with_reducible exact Ext.refl _) | (with_reducible assumption) | (with_reducible refine Ext.drewN ?_ _) | (with_reducible refine Ext.drew ?_) | (with_reducible refine Ext.alloc ?_ _) | (with_reducible refine Ext.trans ?_ (by with_reducible assumption))))), Lib.hid (blk_new' rfl rfl)⟩
  rintro W1 ⟨hx1, hB1⟩
  go_loopw [5, 6] (fun vi _ wr => ∃ i : Nat, i ≤ p.length ∧ vi = .int .i64 i ∧ Hid (Ext w wr) ∧ Hid (Blk wr w.heap.size 27 #[.slice ta t.length tc]) ∧ Hid (∀ j d, j < d → d < i → clashAt t p j d = false)) (fun vi _ _ => p.length - (intOf vi).toNat)
  case atStart => exact ⟨0, by omega, rfl, hx1, hB1, fun j d _ h => by omega⟩
  case round =>
    clear hx1 hB1
    obtain ⟨i, hi, rfl, hx, hB, hF⟩ := hrel
    by_cases h1 : i < p.length
    · obtain ⟨w0, hw0⟩ : ∃ w0 : World, Hid (wr = w0) := ⟨_, rfl⟩
      go_wp2_with fail
      rw [hw0.out] at hx hB
      rw [hw0.out]
      clear hw0
      go_loopw [6] (fun vk wk => ∃ k : Nat, k ≤ i ∧ vk = .int .i64 k ∧ Hid (Ext w0 wk) ∧ Hid (Blk wk w.heap.size 27 #[.slice ta t.length tc]) ∧ Hid (∀ j, j < k → clashAt t p j i = false)) (fun vk _ => i - (intOf vk).toNat)
      case atStart => exact ⟨0, by omega, rfl, Lib.hid (Ext.refl _), hB, fun j h => by omega⟩
      case round =>
        clear hB
        obtain ⟨k, hk, rfl, hx3, hB3, hG⟩ := hrel
        have hxr := Lib.hid (hx.out.trans hx3.out)
        by_cases q1 : k < i
        · have hkp : k < p.length := by omega
          obtain ⟨b1, o1, x, e1, hb1, _, ex, k0⟩ := hpat i h1 wr hxr.out
          obtain ⟨b2, o2, y, rfl, hb2, _, ey, k1⟩ := hpat k hkp wr hxr.out
          cases e1
          have hat := Lib.hid (clashT_at hv'.out hc'.out (i := k) (d := i) (by omega) (by have := hlen.out; omega) (by have := hlen.out; omega) ey.out ex.out)
          have c0 : wr.cell? ⟨w.heap.size, 0, none⟩ = some (.slice ta t.length tc) := hB3.out.cell 0
          obtain ⟨z, hz⟩ : ∃ z, Hid (clashAt t p k i = z) := ⟨_, rfl⟩
          have hcl : Hid (∀ W, Ext wr W → Calls Try.prog 98 #[.agg #[.slice ta t.length tc], .agg #[.int .i64 (k : Int), .int .i64 y], .agg #[.int .i64 (i : Int), .int .i64 x]] W fun e w' => e = .returned (.bool z) ∧ Ext W w') := fun W hW => (rMeets_calls _ t k y i x W (hT.out.ext (hxr.out.trans hW)) hv'.out).mono (by rintro e w' ⟨rfl, hh⟩; rw [hat.out, hz.out]; exact ⟨rfl, hh⟩)
          clear hat hpat ex ey
          cases z with
          | true =>
            have R : Hid (freeB t p = false) := by
              show _ = _
              cases hf : freeB t p with
              | false => rfl
              | true => have := freeB_no hf hkp h1 (by omega); rw [hz.out] at this; cases this
            clear hF hG hz
            go_wp2_with fail
            have z0 := After.cell c0
            have z1 := After.cell k0
            have z2 := After.cell k1
            refine wp_region_after (by kernel_rfl) (by kernel_rfl) ?_
            repeat (go_big_quiet_step (exact After.call _ (hcl.out _ (After.ext _))))
            refine wpQuiet_nil ?_
            rintro _ ⟨u, rfl⟩
            have hu := u.ext
            generalize u.world = V at hu ⊢
            clear z0 z1 z2 c0 k0 k1
            go_wp2
            go_ret
            rw [R.out]
            exact ⟨rfl, hxr.out.trans hu⟩
          | false =>
            have R : Hid (∀ j, j < k + 1 → clashAt t p j i = false) := fun j hj => by
              rcases Nat.lt_succ_iff_lt_or_eq.1 hj with h | rfl
              · exact hG.out j h
              · exact hz.out
            clear hF hG hz
            go_wp2_with fail
            have z0 := After.cell c0
            have z1 := After.cell k0
            have z2 := After.cell k1
            refine wp_region_after (by kernel_rfl) (by kernel_rfl) ?_
            repeat (go_big_quiet_step (exact After.call _ (hcl.out _ (After.ext _))))
            refine wpQuiet_nil ?_
            rintro _ ⟨u, rfl⟩
            have hu := u.ext
            generalize u.world = V at hu ⊢
            clear z0 z1 z2 c0 k0 k1
            go_wp2
            go_roundw
            case rel => exact ⟨k + 1, by omega, by go_num, Lib.hid (hx3.out.trans hu), Lib.hid ((Keep.of_ext (X := fun _ => False) hu).blk hB3.out id), R⟩
            case measure => simp [intOf]; omega
        · have R : Hid (∀ j d, j < d → d < i + 1 → clashAt t p j d = false) := fun j d hj hd => by
            rcases Nat.lt_succ_iff_lt_or_eq.1 hd with h | rfl
            · exact hF.out j d hj h
            · exact hG.out j (by omega)
          clear hF hG hpat
          go_wp2
          go_roundw
          case rel => exact ⟨i + 1, by omega, by go_num, hxr, hB3, R⟩
          case measure => simp [intOf]; omega
    · have R : Hid (freeB t p = true) := freeB_iff.2 fun j d h2 h3 => hF.out j d h2 (by omega)
      clear hF hpat
      go_wp2
      go_ret
      rw [R.out]
      exact ⟨rfl, hx.out⟩

set_option maxHeartbeats 1600000 in
set_option maxRecDepth 100000 in
theorem rLawful_calls (wv pv : Value) (t : List WishD) (p : List Int) (w : World) (h : Wishes w wv t) (hp : Ints w pv p) :
    Calls Try.prog 44 #[.agg #[wv], pv] w fun e w' => e = .returned (.bool (lawfulB t p)) ∧ Ext w w' := by
  have hT := Lib.hid h
  have hP := Lib.hid hp
  obtain ⟨ta, tc, rfl, hn, hcc, _⟩ := h.open
  obtain ⟨pa, pc, rfl, hpn, hpc, _⟩ := hp.open
  obtain ⟨z, hz⟩ : ∃ z, Hid (validT t = z) := ⟨_, rfl⟩
  clear h hp
  go_enter Try.func44, Try.ntmps44
  go_wp2_with fail
  refine (rValid_calls _ t _ (hT.out.ext (by repeat' (first | (with_reducible exact Ext.refl _) | (with_reducible assumption) | (with_reducible refine Ext.drewN ?_ _) | (with_reducible refine Ext.drew ?_) | (with_reducible refine Ext.alloc ?_ _) | (with_reducible refine Ext.trans ?_ (by with_reducible assumption)))))).mono ?_
  rintro e w1 ⟨rfl, hx1⟩
  rw [hz.out]
  have c0 : w1.cell? ⟨w.heap.size, 0, none⟩ = some (.slice ta t.length tc) := hx1.cell (by simp)
  have hxw := Lib.hid (((Ext.refl w).alloc (.cells #[.slice ta t.length tc] 27)).trans hx1)
  clear hx1
  by_cases h0 : z = 0
  · have hv' : Hid (validT t = 0) := hz.out.trans h0
    have hch := Lib.hid (rIsChoice_calls _ _ t p w1 (hT.out.ext hxw.out) (hP.out.ext hxw.out))
    clear hz
    subst h0
    go_wp2_with fail
    refine hch.out.mono ?_
    rintro e w2 ⟨rfl, hx2⟩
    have d0 := hx2.cell c0
    have hxw2 := Lib.hid (hxw.out.trans hx2)
    clear c0 hch hx2
    cases hb : choiceB t p with
    | false =>
      have R : Hid (lawfulB t p = false) := by show _ = _; simp [lawfulB, hb]
      clear hb
      go_wp2
      go_ret
      rw [R.out]
      exact ⟨rfl, hxw2.out⟩
    | true =>
      have R : Hid (lawfulB t p = freeB t p) := by show _ = _; simp [lawfulB, hb, hv'.out]
      have hfr := Lib.hid (rFree_calls _ _ t p w2 (hT.out.ext hxw2.out) (hP.out.ext hxw2.out) hv'.out hb)
      clear hb
      go_wp2_with fail
      refine hfr.out.mono ?_
      rintro e w3 ⟨rfl, hx3⟩
      go_wp2
      go_ret
      rw [R.out]
      exact ⟨rfl, hxw2.out.trans hx3⟩
  · have hz0 : (z == 0) = false := by rw [beq_eq_false_iff_ne]; exact h0
    have R : Hid (lawfulB t p = false) := by show _ = _; simp [lawfulB, hz.out, h0]
    clear h0
    go_wp2
    go_ret
    rw [R.out]
    exact ⟨rfl, hxw.out⟩
end Go.Proofs.Ytkicielleiafgaa
