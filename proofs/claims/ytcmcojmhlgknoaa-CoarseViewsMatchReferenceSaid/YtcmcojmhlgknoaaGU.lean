/- Walks of the reference 26: window, Cells, Valid, touches, number. -/
import Derived.Test.YtcmcojmhlgknoaaGS
namespace Go.Proofs.Ytcmcojmhlgknoaa
open Go.RowKit

/-! ### window -/
theorem rwin_calls (f t : Int) (w : World) : Calls Try.prog 34 #[.agg #[.int .i64 f, .int .i64 t]] w fun e w' => e = .returned (.bool (windowB f t)) ∧ Ext w w' := by
  by_cases h1 : -2251799813685248 ≤ f
  · have d1 : decide (-2251799813685248 ≤ f) = true := decide_eq_true h1
    by_cases h2 : f ≤ t
    · have d2 : decide (f ≤ t) = true := decide_eq_true h2
      obtain ⟨b, hb⟩ : ∃ b, decide (t ≤ 2251799813685248) = b := ⟨_, rfl⟩
      have R : Hid (windowB f t = b) := by show _ = _; unfold windowB; rw [d1, d2, hb]; rfl
      clear h1 h2
      go_enter Try.func34, Try.ntmps34
      go_wp2
      go_ret
      rw [R.out]
      exact ⟨by first | rfl | rw [hb], (by repeat' (first | (with_reducible exact Ext.refl _) | (with_reducible assumption) | (with_reducible refine Ext.drewN ?_ _) | (with_reducible refine Ext.drew ?_) | (with_reducible refine Ext.alloc ?_ _) | (with_reducible refine Ext.trans ?_ (by with_reducible assumption))))⟩
    · have d2 : decide (f ≤ t) = false := decide_eq_false h2
      have R : Hid (windowB f t = false) := by show _ = _; unfold windowB; rw [d1, d2]; rfl
      clear h1 h2
      go_enter Try.func34, Try.ntmps34
      go_wp2
      go_ret
      rw [R.out]
      exact ⟨rfl, (by repeat' (first | (with_reducible exact Ext.refl _) | (with_reducible assumption) | (with_reducible refine Ext.drewN ?_ _) | (with_reducible refine Ext.drew ?_) | (with_reducible refine Ext.alloc ?_ _) | (with_reducible refine Ext.trans ?_ (by with_reducible assumption))))⟩
  · have d1 : decide (-2251799813685248 ≤ f) = false := decide_eq_false h1
    have R : Hid (windowB f t = false) := by show _ = _; unfold windowB; rw [d1]; rfl
    clear h1
    go_enter Try.func34, Try.ntmps34
    go_wp2
    go_ret
    rw [R.out]
    exact ⟨rfl, (by repeat' (first | (with_reducible exact Ext.refl _) | (with_reducible assumption) | (with_reducible refine Ext.drewN ?_ _) | (with_reducible refine Ext.drew ?_) | (with_reducible refine Ext.alloc ?_ _) | (with_reducible refine Ext.trans ?_ (by with_reducible assumption))))⟩

/-! ### Cells -/
set_option maxHeartbeats 1600000 in
theorem rCells_calls (g f t : Int) (w : World) : Calls Try.prog 14 #[.int .i64 g, .agg #[.int .i64 f, .int .i64 t]] w fun e w' => e = .returned (.tuple #[.int .i64 (cellsG g f t).1, .int .i64 (cellsG g f t).2]) ∧ Ext w w' := by
  by_cases h1 : g < 0
  · have d1 : decide (g < 0) = true := decide_eq_true h1
    have R : Hid (cellsG g f t = (0, 1)) := by show _ = _; unfold cellsG grainB; rw [decide_eq_false (show ¬ 0 ≤ g by omega)]; rfl
    clear h1
    go_enter Try.func14, Try.ntmps14
    go_wp2
    go_ret2
    rw [R.out]
    exact ⟨rfl, (by repeat' (first | (with_reducible exact Ext.refl _) | (with_reducible assumption) | (with_reducible refine Ext.drewN ?_ _) | (with_reducible refine Ext.drew ?_) | (with_reducible refine Ext.alloc ?_ _) | (with_reducible refine Ext.trans ?_ (by with_reducible assumption))))⟩
  · have d1 : decide (g < 0) = false := decide_eq_false h1
    by_cases h2 : 4 < g
    · have d2 : decide (4 < g) = true := decide_eq_true h2
      have R : Hid (cellsG g f t = (0, 1)) := by show _ = _; unfold cellsG grainB; rw [decide_eq_false (show ¬ g ≤ 4 by omega), Bool.and_false]; rfl
      clear h1 h2
      go_enter Try.func14, Try.ntmps14
      go_wp2
      go_ret2
      rw [R.out]
      exact ⟨rfl, (by repeat' (first | (with_reducible exact Ext.refl _) | (with_reducible assumption) | (with_reducible refine Ext.drewN ?_ _) | (with_reducible refine Ext.drew ?_) | (with_reducible refine Ext.alloc ?_ _) | (with_reducible refine Ext.trans ?_ (by with_reducible assumption))))⟩
    · have d2 : decide (4 < g) = false := decide_eq_false h2
      have hgr : Hid (grainB g = true) := by show _ = _; unfold grainB; rw [decide_eq_true (show 0 ≤ g by omega), decide_eq_true (show g ≤ 4 by omega)]; rfl
      obtain ⟨q, hq⟩ : ∃ q, Hid (windowB f t = q) := ⟨_, rfl⟩
      have hw : Hid (∀ W, Ext w W → Calls Try.prog 34 #[.agg #[.int .i64 f, .int .i64 t]] W fun e w' => e = .returned (.bool q) ∧ Ext W w') := fun W _ => hq.out ▸ rwin_calls f t W
      cases q with
      | false =>
        have R : Hid (cellsG g f t = (0, 1)) := by show _ = _; unfold cellsG; rw [hgr.out, hq.out]; rfl
        clear h1 h2 hq
        go_enter Try.func14, Try.ntmps14
        go_wp2_with fail
        refine (hw.out _ (by exact (by repeat' (first | (with_reducible exact Ext.refl _) | (with_reducible assumption) | (with_reducible refine Ext.drewN ?_ _) | (with_reducible refine Ext.drew ?_) | (with_reducible refine Ext.alloc ?_ _) | (with_reducible refine Ext.trans ?_ (by with_reducible assumption)))))).mono ?_
        rintro e w1 ⟨rfl, hx1⟩
        have c0 : w1.cell? ⟨w.heap.size, 0, none⟩ = some (.int .i64 f) := hx1.cell (by simp)
        have c1 : w1.cell? ⟨w.heap.size, 1, none⟩ = some (.int .i64 t) := hx1.cell (by simp)
        have hE1 := Lib.hid (((Ext.refl w).alloc (.cells #[.int .i64 f, .int .i64 t] 28)).trans hx1)
        clear hx1 hw
        clear c0 c1
        go_wp2
        go_ret2
        rw [R.out]
        exact ⟨rfl, hE1.out⟩
      | true =>
        have hwin := window_iff.1 hq.out
        by_cases h3 : g = 0
        · subst h3
          have R : Hid (cellsG 0 f t = (0, 12)) := by show _ = _; unfold cellsG; rw [hgr.out, hq.out]; rfl
          clear h1 h2 hq hwin
          go_enter Try.func14, Try.ntmps14
          go_wp2_with fail
          refine (hw.out _ (by exact (by repeat' (first | (with_reducible exact Ext.refl _) | (with_reducible assumption) | (with_reducible refine Ext.drewN ?_ _) | (with_reducible refine Ext.drew ?_) | (with_reducible refine Ext.alloc ?_ _) | (with_reducible refine Ext.trans ?_ (by with_reducible assumption)))))).mono ?_
          rintro e w1 ⟨rfl, hx1⟩
          have c0 : w1.cell? ⟨w.heap.size, 0, none⟩ = some (.int .i64 f) := hx1.cell (by simp)
          have c1 : w1.cell? ⟨w.heap.size, 1, none⟩ = some (.int .i64 t) := hx1.cell (by simp)
          have hE1 := Lib.hid (((Ext.refl w).alloc (.cells #[.int .i64 f, .int .i64 t] 28)).trans hx1)
          clear hx1 hw
          clear c0 c1
          go_wp2
          go_ret2
          rw [R.out]
          exact ⟨rfl, hE1.out⟩
        · have d3 : (g == 0) = false := by rw [beq_eq_false_iff_ne]; exact h3
          obtain ⟨s, hs⟩ : ∃ s, Hid (sizeG g = s) := ⟨_, rfl⟩
          have hs1 : 1 ≤ s := by rw [← hs.out]; exact (size_pos g).1
          have hs2 : s ≤ 1440 := by rw [← hs.out]; exact (size_pos g).2
          have hs0 : (s == 0) = false := by rw [beq_eq_false_iff_ne]; omega
          have hsz : Hid (∀ W, Calls Try.prog 26 #[.int .i64 g] W fun e w' => e = .returned (.int .i64 s) ∧ Ext W w') := fun W => hs.out ▸ rSize_calls g W
          have hC : Hid (cellsG g f t = if f % s = 0 ∧ t % s = 0 then (if 65536 < (t - f) / s then (0, 2) else ((t - f) / s, 0)) else (0, 1)) := by
            show _ = _
            unfold cellsG
            rw [hgr.out, hq.out, hs.out, if_neg h3]
            rfl
          obtain ⟨hw1, hw2, hw3⟩ := hwin
          clear h1 h2 h3 hq hgr hs
          by_cases hf : f % s = 0
          · have m1 : (f.tmod s != 0) = false := by rw [tmod_zero, decide_eq_true hf]; rfl
            by_cases ht : t % s = 0
            · have m2 : (t.tmod s != 0) = false := by rw [tmod_zero, decide_eq_true ht]; rfl
              have h0 : 0 ≤ (t - f) / s := Int.ediv_nonneg (by omega) (by omega)
              have hle : (t - f) / s ≤ t - f := Int.ediv_le_self _ (by omega)
              obtain ⟨n, hn⟩ : ∃ n : Nat, (t - f) / s = (n : Int) := ⟨((t - f) / s).toNat, by omega⟩
              have hn' : (t - f).tdiv s = (n : Int) := by rw [Int.tdiv_eq_ediv_of_nonneg (by omega)]; exact hn
              have hnb : n ≤ 4503599627370496 := by omega
              have R : Hid (cellsG g f t = if 65536 < n then (0, 2) else ((n : Int), 0)) := by
                show _ = _
                rw [hC.out, if_pos ⟨hf, ht⟩, hn]
                by_cases h5 : 65536 < n
                · rw [if_pos h5, if_pos (by omega)]
                · rw [if_neg h5, if_neg (by omega)]
              clear hf ht hC h0 hle
              by_cases h5 : 65536 < n
              · have R2 : Hid (cellsG g f t = (0, 2)) := by show _ = _; rw [R.out, if_pos h5]
                go_enter Try.func14, Try.ntmps14
                go_wp2_with fail
                refine (hw.out _ (by exact (by repeat' (first | (with_reducible exact Ext.refl _) | (with_reducible assumption) | (with_reducible refine Ext.drewN ?_ _) | (with_reducible refine Ext.drew ?_) | (with_reducible refine Ext.alloc ?_ _) | (with_reducible refine Ext.trans ?_ (by with_reducible assumption)))))).mono ?_
                rintro e w1 ⟨rfl, hx1⟩
                have c0 : w1.cell? ⟨w.heap.size, 0, none⟩ = some (.int .i64 f) := hx1.cell (by simp)
                have c1 : w1.cell? ⟨w.heap.size, 1, none⟩ = some (.int .i64 t) := hx1.cell (by simp)
                have hE1 := Lib.hid (((Ext.refl w).alloc (.cells #[.int .i64 f, .int .i64 t] 28)).trans hx1)
                clear hx1 hw
                go_wp2_with fail
                refine (hsz.out _).mono ?_
                rintro e w2 ⟨rfl, hu⟩
                have k0 := hu.cell c0
                have k1 := hu.cell c1
                have hE2 := Lib.hid (hE1.out.trans hu)
                clear c0 c1 hE1 hu
                go_wp2
                go_ret2
                rw [R2.out]
                exact ⟨rfl, hE2.out⟩
              · have R2 : Hid (cellsG g f t = ((n : Int), 0)) := by show _ = _; rw [R.out, if_neg h5]
                go_enter Try.func14, Try.ntmps14
                go_wp2_with fail
                refine (hw.out _ (by exact (by repeat' (first | (with_reducible exact Ext.refl _) | (with_reducible assumption) | (with_reducible refine Ext.drewN ?_ _) | (with_reducible refine Ext.drew ?_) | (with_reducible refine Ext.alloc ?_ _) | (with_reducible refine Ext.trans ?_ (by with_reducible assumption)))))).mono ?_
                rintro e w1 ⟨rfl, hx1⟩
                have c0 : w1.cell? ⟨w.heap.size, 0, none⟩ = some (.int .i64 f) := hx1.cell (by simp)
                have c1 : w1.cell? ⟨w.heap.size, 1, none⟩ = some (.int .i64 t) := hx1.cell (by simp)
                have hE1 := Lib.hid (((Ext.refl w).alloc (.cells #[.int .i64 f, .int .i64 t] 28)).trans hx1)
                clear hx1 hw
                go_wp2_with fail
                refine (hsz.out _).mono ?_
                rintro e w2 ⟨rfl, hu⟩
                have k0 := hu.cell c0
                have k1 := hu.cell c1
                have hE2 := Lib.hid (hE1.out.trans hu)
                clear c0 c1 hE1 hu
                go_wp2
                go_ret2
                rw [R2.out]
                exact ⟨rfl, hE2.out⟩
            · have m2 : (t.tmod s != 0) = true := by rw [tmod_zero, decide_eq_false ht]; rfl
              have R : Hid (cellsG g f t = (0, 1)) := by show _ = _; rw [hC.out, if_neg (fun h => ht h.2)]
              clear hf ht hC
              go_enter Try.func14, Try.ntmps14
              go_wp2_with fail
              refine (hw.out _ (by exact (by repeat' (first | (with_reducible exact Ext.refl _) | (with_reducible assumption) | (with_reducible refine Ext.drewN ?_ _) | (with_reducible refine Ext.drew ?_) | (with_reducible refine Ext.alloc ?_ _) | (with_reducible refine Ext.trans ?_ (by with_reducible assumption)))))).mono ?_
              rintro e w1 ⟨rfl, hx1⟩
              have c0 : w1.cell? ⟨w.heap.size, 0, none⟩ = some (.int .i64 f) := hx1.cell (by simp)
              have c1 : w1.cell? ⟨w.heap.size, 1, none⟩ = some (.int .i64 t) := hx1.cell (by simp)
              have hE1 := Lib.hid (((Ext.refl w).alloc (.cells #[.int .i64 f, .int .i64 t] 28)).trans hx1)
              clear hx1 hw
              go_wp2_with fail
              refine (hsz.out _).mono ?_
              rintro e w2 ⟨rfl, hu⟩
              have k0 := hu.cell c0
              have k1 := hu.cell c1
              have hE2 := Lib.hid (hE1.out.trans hu)
              clear c0 c1 hE1 hu
              go_wp2
              go_ret2
              rw [R.out]
              exact ⟨rfl, hE2.out⟩
          · have m1 : (f.tmod s != 0) = true := by rw [tmod_zero, decide_eq_false hf]; rfl
            have R : Hid (cellsG g f t = (0, 1)) := by show _ = _; rw [hC.out, if_neg (fun h => hf h.1)]
            clear hf hC
            go_enter Try.func14, Try.ntmps14
            go_wp2_with fail
            refine (hw.out _ (by exact (by repeat' (first | (with_reducible exact Ext.refl _) | (with_reducible assumption) | (with_reducible refine Ext.drewN ?_ _) | (with_reducible refine Ext.drew ?_) | (with_reducible refine Ext.alloc ?_ _) | (with_reducible refine Ext.trans ?_ (by with_reducible assumption)))))).mono ?_
            rintro e w1 ⟨rfl, hx1⟩
            have c0 : w1.cell? ⟨w.heap.size, 0, none⟩ = some (.int .i64 f) := hx1.cell (by simp)
            have c1 : w1.cell? ⟨w.heap.size, 1, none⟩ = some (.int .i64 t) := hx1.cell (by simp)
            have hE1 := Lib.hid (((Ext.refl w).alloc (.cells #[.int .i64 f, .int .i64 t] 28)).trans hx1)
            clear hx1 hw
            go_wp2_with fail
            refine (hsz.out _).mono ?_
            rintro e w2 ⟨rfl, hu⟩
            have k0 := hu.cell c0
            have k1 := hu.cell c1
            have hE2 := Lib.hid (hE1.out.trans hu)
            clear c0 c1 hE1 hu
            go_wp2
            go_ret2
            rw [R.out]
            exact ⟨rfl, hE2.out⟩

/-! ### Valid -/
set_option maxHeartbeats 1600000 in
theorem rValid_calls (va : Value) (l : List MarkD) (w : World) (h : Marks w va l) : Calls Try.prog 49 #[va] w fun e w' => e = .returned (.bool (l.all markB)) ∧ Ext w w' := by
  obtain ⟨a, c, rfl, hn, hc, hat⟩ := h.open
  have hat' := Lib.hid hat
  clear h hat
  go_enter Try.func49, Try.ntmps49
  go_wp2_with fail
  go_loopw [3] (fun vi wr => ∃ i : Nat, i ≤ l.length ∧ vi = .int .i64 i ∧ Hid (Ext w wr) ∧ Hid ((l.take i).all markB = true)) (fun vi _ => l.length - (intOf vi).toNat)
  case atStart => exact ⟨0, by omega, rfl, Lib.hid (Ext.refl _), rfl⟩
  case round =>
    obtain ⟨i, hi, rfl, hx, hG⟩ := hrel
    by_cases h1 : i < l.length
    · obtain ⟨b1, o1, x, y, z, rfl, hb1, _, ex, g1, g2, g3⟩ := hat'.out i h1 wr hx.out
      have z1 := After.cell g1
      have z2 := After.cell g2
      have z3 := After.cell g3
      have hw : Hid (∀ W, Calls Try.prog 34 #[.agg #[.int .i64 x, .int .i64 y]] W fun e w' => e = .returned (.bool (windowB x y)) ∧ Ext W w') := fun W => rwin_calls x y W
      have hall : Hid (markB ⟨x, y, z⟩ = true → (l.take (i + 1)).all markB = true) := fun hm => by rw [takeStep ex.out, List.all_append, hG.out]; simp [hm]
      have hbad : Hid (markB ⟨x, y, z⟩ = false → l.all markB = false) := fun hm => by
        rw [Bool.eq_false_iff]
        intro h
        have := List.all_eq_true.1 h _ (List.mem_of_getElem? ex.out)
        rw [hm] at this
        cases this
      clear g1 g2 g3 ex hG
      by_cases k1 : z < 1
      · have hm : markB ⟨x, y, z⟩ = false := by unfold markB; dsimp only; rw [decide_eq_false (by omega)]; rfl
        have d1 : decide (z < 1) = true := decide_eq_true k1
        clear k1 hall
        have R : Hid (l.all markB = false) := hbad.out hm
        clear hm
        go_wp2_with fail
        refine wp_region_after (by kernel_rfl) (by kernel_rfl) ?_
        repeat (go_big_quiet_step (exact After.call _ (hw.out _)))
        refine wpQuiet_nil ?_
        rintro _ ⟨u, rfl⟩
        have hu := Lib.hid (hx.out.trans u.ext)
        generalize u.world = V at hu ⊢
        clear z1 z2 z3 hx
        go_wp2
        go_ret
        rw [R.out]
        exact ⟨rfl, hu.out⟩
      · have d1 : decide (z < 1) = false := decide_eq_false k1
        by_cases k2 : 8 < z
        · have hm : markB ⟨x, y, z⟩ = false := by unfold markB; dsimp only; rw [decide_eq_false (show ¬ z ≤ 8 by omega), Bool.false_and, Bool.and_false]
          have d2 : decide (8 < z) = true := decide_eq_true k2
          clear k1 k2 hall
          have R : Hid (l.all markB = false) := hbad.out hm
          clear hm
          go_wp2_with fail
          refine wp_region_after (by kernel_rfl) (by kernel_rfl) ?_
          repeat (go_big_quiet_step (exact After.call _ (hw.out _)))
          refine wpQuiet_nil ?_
          rintro _ ⟨u, rfl⟩
          have hu := Lib.hid (hx.out.trans u.ext)
          generalize u.world = V at hu ⊢
          clear z1 z2 z3 hx
          go_wp2
          go_ret
          rw [R.out]
          exact ⟨rfl, hu.out⟩
        · have d2 : decide (8 < z) = false := decide_eq_false k2
          obtain ⟨q, hq⟩ : ∃ q, Hid (windowB x y = q) := ⟨_, rfl⟩
          rw [hq.out] at hw
          have hmq : markB ⟨x, y, z⟩ = (q && !decide (x = y)) := by
            unfold markB
            dsimp only
            rw [hq.out, decide_eq_true (show 1 ≤ z by omega), decide_eq_true (show z ≤ 8 by omega), Bool.true_and, Bool.true_and]
          clear k1 k2 hq
          cases q with
          | false =>
            have hm : markB ⟨x, y, z⟩ = false := hmq
            clear hmq hall
            have R : Hid (l.all markB = false) := hbad.out hm
            clear hm
            go_wp2_with fail
            refine wp_region_after (by kernel_rfl) (by kernel_rfl) ?_
            repeat (go_big_quiet_step (exact After.call _ (hw.out _)))
            refine wpQuiet_nil ?_
            rintro _ ⟨u, rfl⟩
            have hu := Lib.hid (hx.out.trans u.ext)
            generalize u.world = V at hu ⊢
            clear z1 z2 z3 hx
            go_wp2
            go_ret
            rw [R.out]
            exact ⟨rfl, hu.out⟩
          | true =>
            by_cases k3 : x = y
            · have hm : markB ⟨x, y, z⟩ = false := by rw [hmq, decide_eq_true k3]; rfl
              have d3 : (x == y) = true := by simp [k3]
              clear hmq k3 hall
              have R : Hid (l.all markB = false) := hbad.out hm
              clear hm
              go_wp2_with fail
              refine wp_region_after (by kernel_rfl) (by kernel_rfl) ?_
              repeat (go_big_quiet_step (exact After.call _ (hw.out _)))
              refine wpQuiet_nil ?_
              rintro _ ⟨u, rfl⟩
              have hu := Lib.hid (hx.out.trans u.ext)
              generalize u.world = V at hu ⊢
              clear z1 z2 z3 hx
              go_wp2
              go_ret
              rw [R.out]
              exact ⟨rfl, hu.out⟩
            · have R : Hid ((l.take (i + 1)).all markB = true) := hall.out (by rw [hmq, decide_eq_false k3]; rfl)
              have d3 : (x == y) = false := by simp [k3]
              clear hmq k3 hall hbad
              go_wp2_with fail
              refine wp_region_after (by kernel_rfl) (by kernel_rfl) ?_
              repeat (go_big_quiet_step (exact After.call _ (hw.out _)))
              refine wpQuiet_nil ?_
              rintro _ ⟨u, rfl⟩
              have hu := Lib.hid (hx.out.trans u.ext)
              generalize u.world = V at hu ⊢
              clear z1 z2 z3 hx
              go_wp2
              go_roundw
              case rel => exact ⟨i + 1, h1, by go_num, hu, R⟩
              case measure => simp [intOf]; omega
    · have R : Hid (l.all markB = true) := by
        have := hG.out
        rwa [List.take_of_length_le (by omega)] at this
      go_wp2
      go_ret
      rw [R.out]
      exact ⟨rfl, hx.out⟩

/-! ### touches, number -/
theorem rTouches_calls (x y a b : Int) (w : World) : Calls Try.prog 52 #[.agg #[.int .i64 x, .int .i64 y], .agg #[.int .i64 a, .int .i64 b]] w fun e w' => e = .returned (.bool (decide (x < b) && decide (a < y))) ∧ Ext w w' := by
  by_cases h1 : x < b
  · have d1 : decide (x < b) = true := decide_eq_true h1
    obtain ⟨q, hq⟩ : ∃ q, decide (a < y) = q := ⟨_, rfl⟩
    have R : Hid ((decide (x < b) && decide (a < y)) = q) := by show _ = _; rw [d1, hq]; rfl
    clear h1
    go_enter Try.func52, Try.ntmps52
    go_wp2
    go_ret
    rw [R.out]
    exact ⟨by first | rfl | rw [hq], (by repeat' (first | (with_reducible exact Ext.refl _) | (with_reducible assumption) | (with_reducible refine Ext.drewN ?_ _) | (with_reducible refine Ext.drew ?_) | (with_reducible refine Ext.alloc ?_ _) | (with_reducible refine Ext.trans ?_ (by with_reducible assumption))))⟩
  · have d1 : decide (x < b) = false := decide_eq_false h1
    have R : Hid ((decide (x < b) && decide (a < y)) = false) := by show _ = _; rw [d1]; rfl
    clear h1
    go_enter Try.func52, Try.ntmps52
    go_wp2
    go_ret
    rw [R.out]
    exact ⟨rfl, (by repeat' (first | (with_reducible exact Ext.refl _) | (with_reducible assumption) | (with_reducible refine Ext.drewN ?_ _) | (with_reducible refine Ext.drew ?_) | (with_reducible refine Ext.alloc ?_ _) | (with_reducible refine Ext.trans ?_ (by with_reducible assumption))))⟩
end Go.Proofs.Ytcmcojmhlgknoaa
