/- Walks of the reference of plans: isChoice. -/
import Derived.Test.YtkicielleiafgaaRG
import Derived.Test.YtkicielleiafgaaMonoP
namespace Go.Proofs.Ytkicielleiafgaa
open Go.RowKit

theorem within_idx {t : List WishD} {i : Nat} {x : WishD} {k : Int} (h : t[i]? = some x) : withinB t (i : Int) k = idxB k x.opts.length := by
  have := (List.getElem?_eq_some_iff.1 h).1
  simp only [withinB, Int.toNat_natCast, h, Option.getD_some]
  rw [idxB_of_lt this]; rfl
set_option maxHeartbeats 3200000 in
set_option maxRecDepth 100000 in
theorem rIsChoice_calls (wv pv : Value) (t : List WishD) (p : List Int) (w : World) (h : Wishes w wv t) (hp : Ints w pv p) :
    Calls Try.prog 83 #[.agg #[wv], pv] w fun e w' => e = .returned (.bool (choiceB t p)) ∧ Ext w w' := by
  have hT := Lib.hid h
  obtain ⟨ta, tc, rfl, hn, hc, hat⟩ := h.open
  obtain ⟨pa, pc, rfl, hpn, hpc, hpat⟩ := hp.open
  clear h hp
  by_cases hl : p.length = t.length
  · have hl' : ((p.length : Int) == (t.length : Int)) = true := by rw [beq_iff_eq]; omega
    have hle : p.length ≤ t.length := by omega
    have hlh := Lib.hid hl
    clear hl
    go_enter Try.func83, Try.ntmps83
    go_wp2_with fail
    refine wp_abs (S := fun W => Hid (Ext w W) ∧ Hid (Blk W w.heap.size 27 #[.slice ta t.length tc])) ?_ ?_
    · exact ⟨Lib.hid (by exact (by repeat' (first | (with_reducible exact Ext.refl _) | (with_reducible assumption) | (with_reducible refine Ext.drewN ?_ _) | (with_reducible refine Ext.drew ?_) | (with_reducible refine Ext.alloc ?_ _) | (with_reducible refine Ext.trans ?_ (by with_reducible assumption))))), Lib.hid (blk_new' rfl rfl)⟩
    rintro W1 ⟨hx1, hB1⟩
    go_loopw [5] (fun vi wr => ∃ i : Nat, i ≤ p.length ∧ vi = .int .i64 i ∧ Hid (Ext w wr) ∧ Hid (Blk wr w.heap.size 27 #[.slice ta t.length tc]) ∧ Hid (choiceB t p = choiceB (t.drop i) (p.drop i))) (fun vi _ => p.length - (intOf vi).toNat)
    case atStart => exact ⟨0, by omega, rfl, hx1, hB1, rfl⟩
    case round =>
      clear hx1 hB1
      obtain ⟨i, hi, rfl, hx, hB, hF⟩ := hrel
      have hx' := hx.out
      by_cases h1 : i < p.length
      · obtain ⟨b1, o1, x, _, _, _, _, e1, _, dx, ex, _, _, _, _, _⟩ := hat i (by omega) wr hx'
        obtain ⟨b2, o2, k, rfl, hb2, dk, ek, k0⟩ := hpat i h1 wr hx'
        have hst := choiceB_step dx.out dk.out
        have hwi := Lib.hid (within_idx (k := k) ex.out)
        have hrel2 : Hid (choiceB t p = (withinB t (i : Int) k && choiceB (t.drop (i + 1)) (p.drop (i + 1)))) := by show _ = _; rw [hF.out, hst, hwi.out]
        clear hst hwi hF hat hpat dx ex dk ek e1
        obtain ⟨z, hz⟩ : ∃ z, Hid (withinB t (i : Int) k = z) := ⟨_, rfl⟩
        rw [hz.out] at hrel2
        have hcl : Hid (∀ W, Ext wr W → Calls Try.prog 112 #[.agg #[.slice ta t.length tc], .agg #[.int .i64 (i : Int), .int .i64 k]] W fun e w' => e = .returned (.bool z) ∧ Ext W w') := fun W hW => (rWithin_calls _ t i k W (hT.out.ext (hx'.trans hW))).mono (by rintro e w' ⟨rfl, hh⟩; rw [hz.out]; exact ⟨rfl, hh⟩)
        have c0 : wr.cell? ⟨w.heap.size, 0, none⟩ = some (.slice ta t.length tc) := hB.out.cell 0
        clear hz
        cases z with
        | true =>
          have R : Hid (choiceB t p = choiceB (t.drop (i + 1)) (p.drop (i + 1))) := by show _ = _; rw [hrel2.out]; rfl
          clear hrel2
          go_wp2_with fail
          have z0 := After.cell c0
          have z1 := After.cell k0
          refine wp_region_after (by kernel_rfl) (by kernel_rfl) ?_
          repeat (go_big_quiet_step (exact After.call _ (hcl.out _ (After.ext _))))
          refine wpQuiet_nil ?_
          rintro _ ⟨u, rfl⟩
          have hu := u.ext
          generalize u.world = V at hu ⊢
          clear z0 z1 c0 k0
          go_wp2
          go_roundw
          case rel => exact ⟨i + 1, by omega, by go_num, Lib.hid (hx'.trans hu), Lib.hid ((Keep.of_ext (X := fun _ => False) hu).blk hB.out id), R⟩
          case measure => simp [intOf]; omega
        | false =>
          have R : Hid (choiceB t p = false) := by show _ = _; rw [hrel2.out]; rfl
          clear hrel2
          go_wp2_with fail
          have z0 := After.cell c0
          have z1 := After.cell k0
          refine wp_region_after (by kernel_rfl) (by kernel_rfl) ?_
          repeat (go_big_quiet_step (exact After.call _ (hcl.out _ (After.ext _))))
          refine wpQuiet_nil ?_
          rintro _ ⟨u, rfl⟩
          have hu := u.ext
          generalize u.world = V at hu ⊢
          clear z0 z1 c0 k0
          go_wp2
          go_ret
          rw [R.out]
          exact ⟨rfl, hx'.trans hu⟩
      · have R : Hid (choiceB t p = true) := by show _ = _; have := hlh.out; rw [hF.out, List.drop_of_length_le (by omega), List.drop_of_length_le (by omega)]; rfl
        clear hF hat hpat
        go_wp2
        go_ret
        rw [R.out]
        exact ⟨rfl, hx'⟩
  · have hl' : ((p.length : Int) == (t.length : Int)) = false := by rw [beq_eq_false_iff_ne]; omega
    have R : Hid (choiceB t p = false) := choiceB_ne hl
    go_enter Try.func83, Try.ntmps83
    go_wp2
    go_ret
    rw [R.out]
    exact ⟨rfl, by exact (by repeat' (first | (with_reducible exact Ext.refl _) | (with_reducible assumption) | (with_reducible refine Ext.drewN ?_ _) | (with_reducible refine Ext.drew ?_) | (with_reducible refine Ext.alloc ?_ _) | (with_reducible refine Ext.trans ?_ (by with_reducible assumption))))⟩
end Go.Proofs.Ytkicielleiafgaa
