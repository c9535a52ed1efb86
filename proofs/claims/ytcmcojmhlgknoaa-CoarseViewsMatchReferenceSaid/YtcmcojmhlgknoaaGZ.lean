/- The law CoarseViewsMatchReference, walked: true for every list of numbers and every question. -/
import Derived.Test.YtcmcojmhlgknoaaGY
import Derived.Test.YtcmcojmhlgknoaaGArgs
namespace Go.Proofs.Ytcmcojmhlgknoaa
open Go.RowKit

def CoCon (g e : Int) (l : List Nat) (k : Nat) (v : Value) (W : World) : Prop := (k = 6 → v = .int .i64 g) ∧ (k = 10 → ∃ u, v = .tuple #[u, .int .i64 e] ∧ Nums W u l)
def WiCon (g e : Int) (l : List MarkD) (k : Nat) (v : Value) (W : World) : Prop := (k = 6 → v = .int .i64 g) ∧ (k = 8 → ∃ u, v = .tuple #[u, .int .i64 e] ∧ Marks W u l)
theorem int_set {w : World} {B i : Nat} {L : List Int} {y : Int} (h : Blk w B 3 ((L.map (Value.int .i64)).toArray.setIfInBounds i (.int .i64 y))) : Blk w B 3 ((L.set i y).map (Value.int .i64)).toArray := by
  have e : (L.map (Value.int .i64)).toArray.setIfInBounds i (.int .i64 y) = ((L.set i y).map (Value.int .i64)).toArray := by simp [List.map_set]
  rwa [e] at h
set_option maxHeartbeats 12800000 in
set_option maxRecDepth 100000 in
theorem coarseViewsMatchReference_calls (va : Value) (view : List Int) (vx : Value) (x : AskD) (w : World) (hv : Ints w va view) (hx : AskV w vx x) :
    Calls Try.prog 3 #[va, vx] w fun e w' => e = .returned (.bool true) ∧ Ext w w' := by
  obtain ⟨gr, tr, a, b⟩ := x
  obtain ⟨rfl, ha, hb⟩ := hx
  dsimp only at ha hb ⊢
  have hI := Lib.hid hv
  obtain ⟨iA, iC, rfl, hin, hic, hat⟩ := hv.open
  have hat' := Lib.hid hat
  clear hv hat
  obtain ⟨g, hg⟩ : ∃ g, Hid (grainL gr = g) := ⟨_, rfl⟩
  have hg4 : 1 ≤ g ∧ g ≤ 4 := hg.out ▸ grain_in gr
  have hgrain : Hid (∀ W, Calls Try.prog 13 #[.int .i64 gr] W fun e w' => e = .returned (.int .i64 g) ∧ Ext W w') := fun W => hg.out ▸ grain_calls gr W
  obtain ⟨f, hf⟩ : ∃ f, Hid (winF g a = f) := ⟨_, rfl⟩
  obtain ⟨t, ht⟩ : ∃ t, Hid (winT g a b = t) := ⟨_, rfl⟩
  obtain ⟨n, hn⟩ : ∃ n : Nat, b % 41 = (n : Int) := ⟨(b % 41).toNat, by omega⟩
  have hn40 : n ≤ 40 := by omega
  have hc := cells_win hg4 a b
  rw [hf.out, ht.out, hn] at hc
  have hcells : Hid (∀ W, Calls Try.prog 14 #[.int .i64 g, .agg #[.int .i64 f, .int .i64 t]] W fun e w' => e = .returned (.tuple #[.int .i64 n, .int .i64 0]) ∧ Ext W w') := fun W => by
    have := rCells_calls g f t W
    rwa [hc] at this
  have hmk := run_make_ints n (by omega)
  clear hc hn
  go_enter Try.func3, Try.ntmps3
  go_wp2_with fail
  refine (sanity_calls _).mono ?_
  rintro e w1 ⟨rfl, hq⟩
  have hA1 : Hid (Blk w1 w.heap.size 25 #[.int .i64 gr, .int .i64 tr, .int .u8 a, .int .u8 b]) := Lib.hid ((Keep.of_ext (X := fun _ => False) hq).blk (blk_new' rfl rfl) id)
  have hE := Lib.hid (((Ext.refl w).alloc (.cells #[.int .i64 gr, .int .i64 tr, .int .u8 a, .int .u8 b] 25)).trans hq)
  clear hq
  replace hI := Lib.hid (hI.out.ext hE.out)
  by_cases h1 : 60 < view.length
  · have d1 : decide (60 < (view.length : Int)) = true := decide_eq_true (by omega)
    go_wp2
    go_ret
    exact ⟨rfl, hE.out⟩
  have d1 : decide (60 < (view.length : Int)) = false := decide_eq_false (by omega)
  go_upto_region 4 with (fail)
  clear d1
  have z0 := After.cell (show w1.cell? ⟨w.heap.size, 0, none⟩ = some (.int .i64 gr) from hA1.out.cell 0)
  have z2 := After.cell (show w1.cell? ⟨w.heap.size, 2, none⟩ = some (.int .u8 a) from hA1.out.cell 2)
  have z3 := After.cell (show w1.cell? ⟨w.heap.size, 3, none⟩ = some (.int .u8 b) from hA1.out.cell 3)
  (refine wp_region_held [] [0, 1, 2, 3, 4, 5, 6] [7] (WinCon g f t) (by kernel_rfl) (by kernel_rfl) ?_; simp only [pickL]; with_reducible refine wpQuiet_nil ?_)
  (refine held_quiet [0, 1] [2, 3, 4, 5, 6] (by kernel_rfl) (by kernel_rfl) ?_; simp only [pickL, List.drop]; (repeat (go_big_quiet_step (fail))); with_reducible refine wpQuiet_nil ?_)
  (refine held_call 2 [3, 4, 5, 6] rfl (by kernel_rfl) 13 (#[.int .i64 gr]) (fun W => by kernel_rfl) rfl ?_ ?_ ?_)
  · exact fun W W' v e hh => hh
  · refine fun W hW _ => (hgrain.out W).mono ?_
    rintro e W' ⟨rfl, hxx⟩
    exact ⟨_, rfl, hxx, ⟨fun _ => rfl, (fun h => by cases h)⟩⟩
  rintro vg ⟨Y, hY, hCv⟩
  obtain rfl := hCv.1 rfl
  clear hCv hY Y
  simp only [Act.put, List.setIfInBounds_toArray, List.set_cons_succ, List.set_cons_zero]
  (refine held_quiet [3, 4] [5, 6] (by kernel_rfl) (by kernel_rfl) ?_; simp only [pickL, List.drop]; (repeat (go_big_quiet_step (fail))); with_reducible refine wpQuiet_nil ?_)
  (refine held_call 5 [6] rfl (by kernel_rfl) 12 (#[.int .i64 g, .agg #[.int .u8 a, .int .u8 b]]) (fun W => by kernel_rfl) rfl ?_ ?_ ?_)
  · exact fun W W' v e hh => hh
  · refine fun W hW _ => (rWindow_calls g a b ha hb W).mono ?_
    rw [hf.out, ht.out]
    rintro e W' ⟨rfl, hxx⟩
    exact ⟨_, rfl, hxx, ⟨(fun h => by cases h), fun _ => rfl⟩⟩
  rintro vg ⟨Y, hY, hCv⟩
  obtain rfl := hCv.2 rfl
  clear hCv hY Y
  simp only [Act.put, List.setIfInBounds_toArray, List.set_cons_succ, List.set_cons_zero]
  (refine held_made 6 [] rfl (by kernel_rfl) (fun g => .pointer (some ⟨g, 0, none⟩)) (.cells #[.int .i64 0, .int .i64 0] 28) (fun W => by kernel_rfl) (fun g g2 e => by cases e; rfl) (fun g => rfl) ?_)
  intro gw
  simp only [Act.put, List.setIfInBounds_toArray, List.set_cons_succ, List.set_cons_zero]
  intro V hxv hfc htk Q0 hQ0
  have h7 := (hfc 6).2 rfl
  have b7 : Blk V gw 28 #[.int .i64 0, .int .i64 0] := h7.1
  have hgw : w1.heap.size ≤ gw := h7.2
  have c7 : V.cell? ⟨gw, 0, none⟩ = some (.int .i64 0) := b7.cell 0
  have c8 : V.cell? ⟨gw, 1, none⟩ = some (.int .i64 0) := b7.cell 1
  have f7 := b7.frozen 0
  have f8 := b7.frozen 1
  have b7' := Lib.hid b7
  have hxv' := Lib.hid hxv
  have hsw := hE.out.size
  simp only [pickL, List.drop]
  clear hfc htk h7 b7 z0 z2 z3 hxv
  go_upto_region 5 with (fail)
  refine wp_abs (S := fun V2 => Hid (Ext w1 V2) ∧ Hid (Blk V2 gw 28 #[.int .i64 f, .int .i64 t])) ?_ ?_
  · exact ⟨Lib.hid ((hxv'.out.setCell (p := ⟨gw, 0, none⟩) hgw _).setCell (p := ⟨gw, 1, none⟩) hgw _), Lib.hid ((b7'.out.set_ 0 _).set_ 1 _)⟩
  clear c7 c8 f7 f8 b7' hxv' hgw hsw
  rintro w2 ⟨hq9, hWB⟩
  have hq := hq9.out
  clear hq9
  replace hA1 := Lib.hid ((Keep.of_ext (X := fun _ => False) hq).blk hA1.out id)
  replace hI := Lib.hid (hI.out.ext hq)
  replace hE := Lib.hid (hE.out.trans hq)
  clear hq hf ht
  have z0 := After.cell (show w2.cell? ⟨w.heap.size, 0, none⟩ = some (.int .i64 gr) from hA1.out.cell 0)
  have z2 := After.cell (show w2.cell? ⟨gw, 0, none⟩ = some (.int .i64 f) from hWB.out.cell 0)
  have z3 := After.cell (show w2.cell? ⟨gw, 1, none⟩ = some (.int .i64 t) from hWB.out.cell 1)
  refine wp_region_after (by kernel_rfl) (by kernel_rfl) ?_
  repeat (go_big_quiet_step (first | (with_reducible exact After.call _ (hgrain.out _)) | (with_reducible exact After.call _ (hcells.out _))))
  refine wpQuiet_nil ?_
  rintro _ ⟨u, rfl⟩
  have hq := u.ext
  generalize u.world = w3 at hq ⊢
  clear z0 z2 z3 u hcells
  (try replace hA1 := Lib.hid ((Keep.of_ext (X := fun _ => False) hq).blk hA1.out id))
  (try replace hWB := Lib.hid ((Keep.of_ext (X := fun _ => False) hq).blk hWB.out id))
  (try replace hVB := Lib.hid ((Keep.of_ext (X := fun _ => False) hq).blk hVB.out id))
  (try replace hFB := Lib.hid ((Keep.of_ext (X := fun _ => False) hq).blk hFB.out id))
  (try replace hI := Lib.hid (hI.out.ext hq))
  (try replace hJ := Lib.hid (hJ.out.ext hq))
  (try replace hF := Lib.hid (hF.out.ext hq))
  (try replace hU := Lib.hid (hU.out.ext hq))
  (try replace hV := Lib.hid (hV.out.ext hq))
  (try replace hX := Lib.hid (hX.out.ext hq))
  (try replace hY := Lib.hid (hY.out.ext hq))
  replace hE := Lib.hid (hE.out.trans hq)
  clear hq
  have lt1 := hA1.out.lt
  have lt2 := hWB.out.lt
  go_wp2_with fail
  refine wp_abs (S := fun W => Hid (Ext w3 W) ∧ Hid (Blk W w3.heap.size 3 ((zerosL n).map (Value.int .i64)).toArray)) ⟨Lib.hid (by exact (by repeat' (first | (with_reducible exact Ext.refl _) | (with_reducible assumption) | (with_reducible refine Ext.drewN ?_ _) | (with_reducible refine Ext.drew ?_) | (with_reducible refine Ext.alloc ?_ _) | (with_reducible refine Ext.trans ?_ (by with_reducible assumption))))), Lib.hid (blk_new' rfl rfl)⟩ ?_
  rintro w4 ⟨hx4, hB4⟩
  clear hmk
  go_loopw [10] (fun vi wr => ∃ (i : Nat) (L : List Int), i ≤ n ∧ vi = .int .i64 i ∧ Hid (L.length = n) ∧ Hid (Blk wr w3.heap.size 3 (L.map (Value.int .i64)).toArray) ∧ Hid (Ext w3 wr)) (fun vi _ => n - (intOf vi).toNat)
  case atStart => exact ⟨0, zerosL n, by omega, rfl, zerosL_len n, hB4, hx4⟩
  case round =>
    clear hB4 hx4
    obtain ⟨i, L, hi, rfl, hL, hB, hx⟩ := hrel
    by_cases hin : i < n ∧ i < view.length
    · obtain ⟨hin, hiv⟩ := hin
      obtain ⟨z, hz⟩ : ∃ z, L[i]? = some z := ⟨_, List.getElem?_eq_getElem (by have := hL.out; omega)⟩
      obtain ⟨b1, o1, x, rfl, hb1, _, _, g1⟩ := hat'.out i hiv wr (hE.out.trans hx.out)
      have c1 : wr.cell? ⟨w3.heap.size, i, none⟩ = some (.int .i64 z) := by rw [hB.out.cell i]; simp [hz]
      have f1 := hB.out.frozen i
      have hlt := hB.out.lt
      go_upto_region 11 with (fail)
      refine wp_abs (S := fun W => ∃ L : List Int, Hid (L.length = n) ∧ Hid (Blk W w3.heap.size 3 (L.map (Value.int .i64)).toArray) ∧ Hid (Ext w3 W)) ?_ ?_
      · exact ⟨L.set i _, Lib.hid (by rw [List.length_set]; exact hL.out), Lib.hid (int_set (hB.out.set_ i _)), Lib.hid (hx.out.setCell (Nat.le_refl _) _)⟩
      clear hL hB hx hz g1 c1 f1 hlt hb1
      rintro w5 ⟨L5, hL, hB, hx⟩
      have k0 : w5.cell? ⟨w.heap.size, 0, none⟩ = some (.int .i64 gr) := ((Keep.of_ext (X := fun _ => False) hx.out).blk hA1.out id).cell 0
      go_wp2_with fail
      refine (hgrain.out _).mono ?_
      rintro e w6 ⟨rfl, hu⟩
      replace hB := Lib.hid ((Keep.of_ext (X := fun _ => False) hu).blk hB.out id)
      replace hx := Lib.hid (hx.out.trans hu)
      clear k0 hu
      by_cases h2 : g ≤ 2
      · have d2 : decide (g ≤ 2) = true := decide_eq_true h2
        obtain ⟨z, hz⟩ : ∃ z, L5[i]? = some z := ⟨_, List.getElem?_eq_getElem (by have := hL.out; omega)⟩
        obtain ⟨b2, o2, x2, e2, hb1, _, _, g1⟩ := hat'.out i hiv w6 (hE.out.trans hx.out)
        cases e2
        have c1 : w6.cell? ⟨w3.heap.size, i, none⟩ = some (.int .i64 z) := by rw [hB.out.cell i]; simp [hz]
        have f1 := hB.out.frozen i
        have hlt := hB.out.lt
        go_upto_region 9 with (fail)
        refine wp_abs (S := fun W => ∃ L : List Int, Hid (L.length = n) ∧ Hid (Blk W w3.heap.size 3 (L.map (Value.int .i64)).toArray) ∧ Hid (Ext w3 W)) ?_ ?_
        · exact ⟨L5.set i _, Lib.hid (by rw [List.length_set]; exact hL.out), Lib.hid (int_set (hB.out.set_ i _)), Lib.hid (hx.out.setCell (Nat.le_refl _) _)⟩
        clear hL hB hx hz g1 c1 f1 hlt hb1
        rintro w7 ⟨L7, hL, hB, hx⟩
        go_wp2
        go_roundw
        case rel => first | exact ⟨i + 1, L7, hin, by go_num, hL, hB, hx⟩ | ((repeat apply Exists.intro); exact ⟨⟨i + 1, L7, hin, by go_num, hL, hB, hx⟩, rfl⟩)
        case measure => simp [intOf]; omega
      · have d2 : decide (g ≤ 2) = false := decide_eq_false h2
        go_wp2
        go_roundw
        case rel => first | exact ⟨i + 1, L5, hin, by go_num, hL, hB, hx⟩ | ((repeat apply Exists.intro); exact ⟨⟨i + 1, L5, hin, by go_num, hL, hB, hx⟩, rfl⟩)
        case measure => simp [intOf]; omega
    · have hq := hx.out
      have hF : Hid (Ints wr (.slice (some ⟨w3.heap.size, 0, none⟩) n n) L) := by
        have := ints_blk hB.out (by rw [hL.out]; unfold maxLen; omega)
        rw [hL.out] at this
        exact Lib.hid this
      clear hB hx hat'
      have hI0 := hI
      (try replace hA1 := Lib.hid ((Keep.of_ext (X := fun _ => False) hq).blk hA1.out id))
      (try replace hWB := Lib.hid ((Keep.of_ext (X := fun _ => False) hq).blk hWB.out id))
      (try replace hVB := Lib.hid ((Keep.of_ext (X := fun _ => False) hq).blk hVB.out id))
      (try replace hFB := Lib.hid ((Keep.of_ext (X := fun _ => False) hq).blk hFB.out id))
      (try replace hI := Lib.hid (hI.out.ext hq))
      (try replace hJ := Lib.hid (hJ.out.ext hq))
      (try replace hF := Lib.hid (hF.out.ext hq))
      (try replace hU := Lib.hid (hU.out.ext hq))
      (try replace hV := Lib.hid (hV.out.ext hq))
      (try replace hX := Lib.hid (hX.out.ext hq))
      (try replace hY := Lib.hid (hY.out.ext hq))
      replace hE := Lib.hid (hE.out.trans hq)
      clear hq
      have hs5 := hE.out.size
      clear lt1 lt2 hI0
      by_cases hA : i < n
      · have hB : ¬ i < view.length := fun h => hin ⟨hA, h⟩
        clear hin
        rename World => wF
        go_upto_region 14 with (fail)
        refine wp_abs (S := fun W => Hid (Ext wF W) ∧ Hid (Blk W wF.heap.size 22 #[.slice iA view.length iC, .slice (some ⟨w3.heap.size, 0, none⟩) n n])) ⟨Lib.hid (by exact (by repeat' (first | (with_reducible exact Ext.refl _) | (with_reducible assumption) | (with_reducible refine Ext.drewN ?_ _) | (with_reducible refine Ext.drew ?_) | (with_reducible refine Ext.alloc ?_ _) | (with_reducible refine Ext.trans ?_ (by with_reducible assumption))))), Lib.hid (blk_new' rfl rfl)⟩ ?_
        rintro wG ⟨hx9, hVB⟩
        have hq := hx9.out
        clear hx9 hi hs5
        (try clear hA)
        (try clear hB)
        replace hA1 := Lib.hid ((Keep.of_ext (X := fun _ => False) hq).blk hA1.out id)
        replace hWB := Lib.hid ((Keep.of_ext (X := fun _ => False) hq).blk hWB.out id)
        replace hI := Lib.hid (hI.out.ext hq)
        replace hF := Lib.hid (hF.out.ext hq)
        replace hE := Lib.hid (hE.out.trans hq)
        clear hq
        generalize wF.heap.size = vb at *
        go_wp2_with fail
        go_loopw [12] (fun vi wr => ∃ j : Nat, j ≤ 2 ∧ vi = .int .i64 j ∧ Hid (Blk wr w.heap.size 25 #[.int .i64 gr, .int .i64 tr, .int .u8 a, .int .u8 b]) ∧ Hid (Blk wr gw 28 #[.int .i64 f, .int .i64 t]) ∧ Hid (Blk wr vb 22 #[.slice iA view.length iC, .slice (some ⟨w3.heap.size, 0, none⟩) n n]) ∧ Hid (Ints wr (.slice iA view.length iC) view) ∧ Hid (Ints wr (.slice (some ⟨w3.heap.size, 0, none⟩) n n) L) ∧ Hid (Ext w wr)) (fun vi _ => 2 - (intOf vi).toNat)
        case atStart => exact ⟨0, by omega, rfl, hA1, hWB, hVB, hI, hF, hE⟩
        case round =>
          clear hA1 hWB hVB hI hF hE
          obtain ⟨j, hj, rfl, hA1, hWB, hVB, hI, hF, hE⟩ := hrel
          by_cases hj2 : j < 2
          · obtain ⟨lA, lC, K, hcell, hJ⟩ : ∃ lA lC K, (∀ W, Blk W vb 22 #[.slice iA view.length iC, .slice (some ⟨w3.heap.size, 0, none⟩) n n] → W.cell? ⟨vb, j, none⟩ = some (.slice lA K.length lC)) ∧ Hid (Ints wr (.slice lA K.length lC) K) := by
              by_cases hj0 : j = 0
              · subst hj0
                exact ⟨iA, iC, view, fun W h => h.cell 0, hI⟩
              · obtain rfl : j = 1 := by omega
                refine ⟨some ⟨w3.heap.size, 0, none⟩, n, L, fun W h => ?_, ?_⟩
                · rw [hL.out]
                  exact h.cell 1
                · rw [hL.out]
                  exact hF
            have hcell := Lib.hid hcell
            obtain ⟨cl, ce, hco⟩ : ∃ x e, Hid (coarserG K g tr f t = (x, e)) := ⟨_, _, rfl⟩
            obtain ⟨wl, we, hwi⟩ : ∃ x e, Hid (witG K g f t = (x, e)) := ⟨_, _, rfl⟩
            have z0 := After.cell (show wr.cell? ⟨w.heap.size, 0, none⟩ = some (.int .i64 gr) from hA1.out.cell 0)
            have z1 := After.cell (show wr.cell? ⟨w.heap.size, 1, none⟩ = some (.int .i64 tr) from hA1.out.cell 1)
            have z2 := After.cell (show wr.cell? ⟨gw, 0, none⟩ = some (.int .i64 f) from hWB.out.cell 0)
            have z3 := After.cell (show wr.cell? ⟨gw, 1, none⟩ = some (.int .i64 t) from hWB.out.cell 1)
            have z4 := After.cell (hcell.out wr hVB.out)
            go_upto_region 17 with (fail)
            (refine wp_region_held [] [0, 1, 2, 3, 4, 5, 6, 7, 8, 9, 10, 11, 12, 13, 14, 15] [] (CoCon g ce cl) (by kernel_rfl) (by kernel_rfl) ?_; simp only [pickL]; with_reducible refine wpQuiet_nil ?_)
            (refine held_quiet [0, 1, 2, 3, 4, 5] [6, 7, 8, 9, 10, 11, 12, 13, 14, 15] (by kernel_rfl) (by kernel_rfl) ?_; simp only [pickL, List.drop]; (repeat (go_big_quiet_step (fail))); with_reducible refine wpQuiet_nil ?_)
            (refine held_call 6 [7, 8, 9, 10, 11, 12, 13, 14, 15] rfl (by kernel_rfl) 13 (#[.int .i64 gr]) (fun W => by kernel_rfl) rfl ?_ ?_ ?_)
            · exact fun W W' v e hh => ⟨hh.1, fun h => let ⟨u, h1, h2⟩ := hh.2 h; ⟨u, h1, h2.ext e⟩⟩
            · refine fun W hW _ => (hgrain.out W).mono ?_
              rintro e W' ⟨rfl, hxx⟩
              exact ⟨_, rfl, hxx, ⟨fun _ => rfl, (fun h => by cases h)⟩⟩
            rintro vg ⟨Y, hY, hCv⟩
            obtain rfl := hCv.1 rfl
            clear hCv hY Y
            simp only [Act.put, List.setIfInBounds_toArray, List.set_cons_succ, List.set_cons_zero]
            (refine held_quiet [7, 8, 9] [10, 11, 12, 13, 14, 15] (by kernel_rfl) (by kernel_rfl) ?_; simp only [pickL, List.drop]; (repeat (go_big_quiet_step (fail))); with_reducible refine wpQuiet_nil ?_)
            (refine held_call 10 [11, 12, 13, 14, 15] rfl (by kernel_rfl) 15 (#[.slice lA K.length lC, .int .i64 g, .int .i64 tr, .agg #[.int .i64 f, .int .i64 t]]) (fun W => by kernel_rfl) rfl ?_ ?_ ?_)
            · exact fun W W' v e hh => ⟨hh.1, fun h => let ⟨u, h1, h2⟩ := hh.2 h; ⟨u, h1, h2.ext e⟩⟩
            · refine fun W hW _ => (coarser_calls _ K g tr f t W (hJ.out.ext hW)).mono ?_
              rw [hco.out]
              rintro e W' ⟨u, rfl, hu, hxx⟩
              exact ⟨_, rfl, hxx, ⟨(fun h => by cases h), fun _ => ⟨u, rfl, hu⟩⟩⟩
            rintro vg ⟨Y, hY, hCv⟩
            obtain ⟨u, rfl, hu⟩ := hCv.2 rfl
            obtain ⟨UA, UC, rfl⟩ := hu.form
            clear hCv hY hu Y
            simp only [Act.put, List.setIfInBounds_toArray, List.set_cons_succ, List.set_cons_zero]
            (refine held_quiet [11, 12, 13, 14, 15] [] (by kernel_rfl) (by kernel_rfl) ?_; simp only [pickL, List.drop]; (repeat (go_big_quiet_step (fail))); with_reducible refine wpQuiet_nil ?_)
            intro wH hq hfc htk Q0 hQ0
            have hU : Hid (Nums wH (.slice UA cl.length UC) cl) := by
              obtain ⟨u2, e2, h2⟩ := ((hfc 10).2 rfl).2 rfl
              cases e2
              exact Lib.hid h2
            simp only [pickL]
            clear hfc htk z0 z1 z2 z3 z4
            skip
            (try replace hA1 := Lib.hid ((Keep.of_ext (X := fun _ => False) hq).blk hA1.out id))
            (try replace hWB := Lib.hid ((Keep.of_ext (X := fun _ => False) hq).blk hWB.out id))
            (try replace hVB := Lib.hid ((Keep.of_ext (X := fun _ => False) hq).blk hVB.out id))
            (try replace hFB := Lib.hid ((Keep.of_ext (X := fun _ => False) hq).blk hFB.out id))
            (try replace hI := Lib.hid (hI.out.ext hq))
            (try replace hJ := Lib.hid (hJ.out.ext hq))
            (try replace hF := Lib.hid (hF.out.ext hq))
            (try replace hU := Lib.hid (hU.out.ext hq))
            (try replace hV := Lib.hid (hV.out.ext hq))
            (try replace hX := Lib.hid (hX.out.ext hq))
            (try replace hY := Lib.hid (hY.out.ext hq))
            replace hE := Lib.hid (hE.out.trans hq)
            clear hq
            refine hQ0 _ _ ?_
            clear hQ0 Q0
            have z0 := After.cell (show wH.cell? ⟨w.heap.size, 0, none⟩ = some (.int .i64 gr) from hA1.out.cell 0)
            have z1 := After.cell (show wH.cell? ⟨w.heap.size, 1, none⟩ = some (.int .i64 tr) from hA1.out.cell 1)
            have z2 := After.cell (show wH.cell? ⟨gw, 0, none⟩ = some (.int .i64 f) from hWB.out.cell 0)
            have z3 := After.cell (show wH.cell? ⟨gw, 1, none⟩ = some (.int .i64 t) from hWB.out.cell 1)
            have z4 := After.cell (hcell.out wH hVB.out)
            go_upto_region 18 with (fail)
            (refine wp_region_held [] [0, 1, 2, 3, 4, 5, 6, 7, 8, 9, 10, 11, 12, 13, 14, 15] [] (CoCon g ce cl) (by kernel_rfl) (by kernel_rfl) ?_; simp only [pickL]; with_reducible refine wpQuiet_nil ?_)
            (refine held_quiet [0, 1, 2, 3, 4, 5] [6, 7, 8, 9, 10, 11, 12, 13, 14, 15] (by kernel_rfl) (by kernel_rfl) ?_; simp only [pickL, List.drop]; (repeat (go_big_quiet_step (fail))); with_reducible refine wpQuiet_nil ?_)
            (refine held_call 6 [7, 8, 9, 10, 11, 12, 13, 14, 15] rfl (by kernel_rfl) 13 (#[.int .i64 gr]) (fun W => by kernel_rfl) rfl ?_ ?_ ?_)
            · exact fun W W' v e hh => ⟨hh.1, fun h => let ⟨u, h1, h2⟩ := hh.2 h; ⟨u, h1, h2.ext e⟩⟩
            · refine fun W hW _ => (hgrain.out W).mono ?_
              rintro e W' ⟨rfl, hxx⟩
              exact ⟨_, rfl, hxx, ⟨fun _ => rfl, (fun h => by cases h)⟩⟩
            rintro vg ⟨Y, hY, hCv⟩
            obtain rfl := hCv.1 rfl
            clear hCv hY Y
            simp only [Act.put, List.setIfInBounds_toArray, List.set_cons_succ, List.set_cons_zero]
            (refine held_quiet [7, 8, 9] [10, 11, 12, 13, 14, 15] (by kernel_rfl) (by kernel_rfl) ?_; simp only [pickL, List.drop]; (repeat (go_big_quiet_step (fail))); with_reducible refine wpQuiet_nil ?_)
            (refine held_call 10 [11, 12, 13, 14, 15] rfl (by kernel_rfl) 16 (#[.slice lA K.length lC, .int .i64 g, .int .i64 tr, .agg #[.int .i64 f, .int .i64 t]]) (fun W => by kernel_rfl) rfl ?_ ?_ ?_)
            · exact fun W W' v e hh => ⟨hh.1, fun h => let ⟨u, h1, h2⟩ := hh.2 h; ⟨u, h1, h2.ext e⟩⟩
            · refine fun W hW _ => (rCoarser_calls _ K g tr f t W (hJ.out.ext hW)).mono ?_
              rw [hco.out]
              rintro e W' ⟨u, rfl, hu, hxx⟩
              exact ⟨_, rfl, hxx, ⟨(fun h => by cases h), fun _ => ⟨u, rfl, hu⟩⟩⟩
            rintro vg ⟨Y, hY, hCv⟩
            obtain ⟨u, rfl, hu⟩ := hCv.2 rfl
            obtain ⟨VA, VC, rfl⟩ := hu.form
            clear hCv hY hu Y
            simp only [Act.put, List.setIfInBounds_toArray, List.set_cons_succ, List.set_cons_zero]
            (refine held_quiet [11, 12, 13, 14, 15] [] (by kernel_rfl) (by kernel_rfl) ?_; simp only [pickL, List.drop]; (repeat (go_big_quiet_step (fail))); with_reducible refine wpQuiet_nil ?_)
            intro wI hq hfc htk Q0 hQ0
            have hV : Hid (Nums wI (.slice VA cl.length VC) cl) := by
              obtain ⟨u2, e2, h2⟩ := ((hfc 10).2 rfl).2 rfl
              cases e2
              exact Lib.hid h2
            simp only [pickL]
            clear hfc htk z0 z1 z2 z3 z4
            skip
            (try replace hA1 := Lib.hid ((Keep.of_ext (X := fun _ => False) hq).blk hA1.out id))
            (try replace hWB := Lib.hid ((Keep.of_ext (X := fun _ => False) hq).blk hWB.out id))
            (try replace hVB := Lib.hid ((Keep.of_ext (X := fun _ => False) hq).blk hVB.out id))
            (try replace hFB := Lib.hid ((Keep.of_ext (X := fun _ => False) hq).blk hFB.out id))
            (try replace hI := Lib.hid (hI.out.ext hq))
            (try replace hJ := Lib.hid (hJ.out.ext hq))
            (try replace hF := Lib.hid (hF.out.ext hq))
            (try replace hU := Lib.hid (hU.out.ext hq))
            (try replace hV := Lib.hid (hV.out.ext hq))
            (try replace hX := Lib.hid (hX.out.ext hq))
            (try replace hY := Lib.hid (hY.out.ext hq))
            replace hE := Lib.hid (hE.out.trans hq)
            clear hq
            refine hQ0 _ _ ?_
            clear hQ0 Q0
            have z0 := After.cell (show wI.cell? ⟨w.heap.size, 0, none⟩ = some (.int .i64 gr) from hA1.out.cell 0)
            have z1 := After.cell (show wI.cell? ⟨w.heap.size, 1, none⟩ = some (.int .i64 tr) from hA1.out.cell 1)
            have z2 := After.cell (show wI.cell? ⟨gw, 0, none⟩ = some (.int .i64 f) from hWB.out.cell 0)
            have z3 := After.cell (show wI.cell? ⟨gw, 1, none⟩ = some (.int .i64 t) from hWB.out.cell 1)
            have z4 := After.cell (hcell.out wI hVB.out)
            clear z1
            go_upto_region 19 with (fail)
            (refine wp_region_held [] [0, 1, 2, 3, 4, 5, 6, 7, 8, 9, 10, 11, 12, 13] [] (WiCon g we wl) (by kernel_rfl) (by kernel_rfl) ?_; simp only [pickL]; with_reducible refine wpQuiet_nil ?_)
            (refine held_quiet [0, 1, 2, 3, 4, 5] [6, 7, 8, 9, 10, 11, 12, 13] (by kernel_rfl) (by kernel_rfl) ?_; simp only [pickL, List.drop]; (repeat (go_big_quiet_step (fail))); with_reducible refine wpQuiet_nil ?_)
            (refine held_call 6 [7, 8, 9, 10, 11, 12, 13] rfl (by kernel_rfl) 13 (#[.int .i64 gr]) (fun W => by kernel_rfl) rfl ?_ ?_ ?_)
            · exact fun W W' v e hh => ⟨hh.1, fun h => let ⟨u, h1, h2⟩ := hh.2 h; ⟨u, h1, h2.ext e⟩⟩
            · refine fun W hW _ => (hgrain.out W).mono ?_
              rintro e W' ⟨rfl, hxx⟩
              exact ⟨_, rfl, hxx, ⟨fun _ => rfl, (fun h => by cases h)⟩⟩
            rintro vg ⟨Y, hY, hCv⟩
            obtain rfl := hCv.1 rfl
            clear hCv hY Y
            simp only [Act.put, List.setIfInBounds_toArray, List.set_cons_succ, List.set_cons_zero]
            (refine held_quiet [7] [8, 9, 10, 11, 12, 13] (by kernel_rfl) (by kernel_rfl) ?_; simp only [pickL, List.drop]; (repeat (go_big_quiet_step (fail))); with_reducible refine wpQuiet_nil ?_)
            (refine held_call 8 [9, 10, 11, 12, 13] rfl (by kernel_rfl) 17 (#[.slice lA K.length lC, .int .i64 g, .agg #[.int .i64 f, .int .i64 t]]) (fun W => by kernel_rfl) rfl ?_ ?_ ?_)
            · exact fun W W' v e hh => ⟨hh.1, fun h => let ⟨u, h1, h2⟩ := hh.2 h; ⟨u, h1, h2.ext e⟩⟩
            · refine fun W hW _ => (witness_calls _ K g f t W (hJ.out.ext hW)).mono ?_
              rw [hwi.out]
              rintro e W' ⟨u, rfl, hu, hxx⟩
              exact ⟨_, rfl, hxx, ⟨(fun h => by cases h), fun _ => ⟨u, rfl, hu.read⟩⟩⟩
            rintro vg ⟨Y, hY, hCv⟩
            obtain ⟨u, rfl, hu⟩ := hCv.2 rfl
            obtain ⟨XA, XC, rfl⟩ := hu.form
            clear hCv hY hu Y
            simp only [Act.put, List.setIfInBounds_toArray, List.set_cons_succ, List.set_cons_zero]
            (refine held_quiet [9, 10, 11, 12, 13] [] (by kernel_rfl) (by kernel_rfl) ?_; simp only [pickL, List.drop]; (repeat (go_big_quiet_step (fail))); with_reducible refine wpQuiet_nil ?_)
            intro wJ hq hfc htk Q0 hQ0
            have hX : Hid (Marks wJ (.slice XA wl.length XC) wl) := by
              obtain ⟨u2, e2, h2⟩ := ((hfc 8).2 rfl).2 rfl
              cases e2
              exact Lib.hid h2
            simp only [pickL]
            clear hfc htk z0 z2 z3 z4
            skip
            (try replace hA1 := Lib.hid ((Keep.of_ext (X := fun _ => False) hq).blk hA1.out id))
            (try replace hWB := Lib.hid ((Keep.of_ext (X := fun _ => False) hq).blk hWB.out id))
            (try replace hVB := Lib.hid ((Keep.of_ext (X := fun _ => False) hq).blk hVB.out id))
            (try replace hFB := Lib.hid ((Keep.of_ext (X := fun _ => False) hq).blk hFB.out id))
            (try replace hI := Lib.hid (hI.out.ext hq))
            (try replace hJ := Lib.hid (hJ.out.ext hq))
            (try replace hF := Lib.hid (hF.out.ext hq))
            (try replace hU := Lib.hid (hU.out.ext hq))
            (try replace hV := Lib.hid (hV.out.ext hq))
            (try replace hX := Lib.hid (hX.out.ext hq))
            (try replace hY := Lib.hid (hY.out.ext hq))
            replace hE := Lib.hid (hE.out.trans hq)
            clear hq
            refine hQ0 _ _ ?_
            clear hQ0 Q0
            have z0 := After.cell (show wJ.cell? ⟨w.heap.size, 0, none⟩ = some (.int .i64 gr) from hA1.out.cell 0)
            have z1 := After.cell (show wJ.cell? ⟨w.heap.size, 1, none⟩ = some (.int .i64 tr) from hA1.out.cell 1)
            have z2 := After.cell (show wJ.cell? ⟨gw, 0, none⟩ = some (.int .i64 f) from hWB.out.cell 0)
            have z3 := After.cell (show wJ.cell? ⟨gw, 1, none⟩ = some (.int .i64 t) from hWB.out.cell 1)
            have z4 := After.cell (hcell.out wJ hVB.out)
            clear z1
            go_upto_region 20 with (fail)
            (refine wp_region_held [] [0, 1, 2, 3, 4, 5, 6, 7, 8, 9, 10, 11, 12, 13] [] (WiCon g we wl) (by kernel_rfl) (by kernel_rfl) ?_; simp only [pickL]; with_reducible refine wpQuiet_nil ?_)
            (refine held_quiet [0, 1, 2, 3, 4, 5] [6, 7, 8, 9, 10, 11, 12, 13] (by kernel_rfl) (by kernel_rfl) ?_; simp only [pickL, List.drop]; (repeat (go_big_quiet_step (fail))); with_reducible refine wpQuiet_nil ?_)
            (refine held_call 6 [7, 8, 9, 10, 11, 12, 13] rfl (by kernel_rfl) 13 (#[.int .i64 gr]) (fun W => by kernel_rfl) rfl ?_ ?_ ?_)
            · exact fun W W' v e hh => ⟨hh.1, fun h => let ⟨u, h1, h2⟩ := hh.2 h; ⟨u, h1, h2.ext e⟩⟩
            · refine fun W hW _ => (hgrain.out W).mono ?_
              rintro e W' ⟨rfl, hxx⟩
              exact ⟨_, rfl, hxx, ⟨fun _ => rfl, (fun h => by cases h)⟩⟩
            rintro vg ⟨Y, hY, hCv⟩
            obtain rfl := hCv.1 rfl
            clear hCv hY Y
            simp only [Act.put, List.setIfInBounds_toArray, List.set_cons_succ, List.set_cons_zero]
            (refine held_quiet [7] [8, 9, 10, 11, 12, 13] (by kernel_rfl) (by kernel_rfl) ?_; simp only [pickL, List.drop]; (repeat (go_big_quiet_step (fail))); with_reducible refine wpQuiet_nil ?_)
            (refine held_call 8 [9, 10, 11, 12, 13] rfl (by kernel_rfl) 18 (#[.slice lA K.length lC, .int .i64 g, .agg #[.int .i64 f, .int .i64 t]]) (fun W => by kernel_rfl) rfl ?_ ?_ ?_)
            · exact fun W W' v e hh => ⟨hh.1, fun h => let ⟨u, h1, h2⟩ := hh.2 h; ⟨u, h1, h2.ext e⟩⟩
            · refine fun W hW _ => (rWitness_calls _ K g f t W (hJ.out.ext hW)).mono ?_
              rw [hwi.out]
              rintro e W' ⟨u, rfl, hu, hxx⟩
              exact ⟨_, rfl, hxx, ⟨(fun h => by cases h), fun _ => ⟨u, rfl, hu.read⟩⟩⟩
            rintro vg ⟨Y, hY, hCv⟩
            obtain ⟨u, rfl, hu⟩ := hCv.2 rfl
            obtain ⟨YA, YC, rfl⟩ := hu.form
            clear hCv hY hu Y
            simp only [Act.put, List.setIfInBounds_toArray, List.set_cons_succ, List.set_cons_zero]
            (refine held_quiet [9, 10, 11, 12, 13] [] (by kernel_rfl) (by kernel_rfl) ?_; simp only [pickL, List.drop]; (repeat (go_big_quiet_step (fail))); with_reducible refine wpQuiet_nil ?_)
            intro wK hq hfc htk Q0 hQ0
            have hY : Hid (Marks wK (.slice YA wl.length YC) wl) := by
              obtain ⟨u2, e2, h2⟩ := ((hfc 8).2 rfl).2 rfl
              cases e2
              exact Lib.hid h2
            simp only [pickL]
            clear hfc htk z0 z2 z3 z4
            skip
            (try replace hA1 := Lib.hid ((Keep.of_ext (X := fun _ => False) hq).blk hA1.out id))
            (try replace hWB := Lib.hid ((Keep.of_ext (X := fun _ => False) hq).blk hWB.out id))
            (try replace hVB := Lib.hid ((Keep.of_ext (X := fun _ => False) hq).blk hVB.out id))
            (try replace hFB := Lib.hid ((Keep.of_ext (X := fun _ => False) hq).blk hFB.out id))
            (try replace hI := Lib.hid (hI.out.ext hq))
            (try replace hJ := Lib.hid (hJ.out.ext hq))
            (try replace hF := Lib.hid (hF.out.ext hq))
            (try replace hU := Lib.hid (hU.out.ext hq))
            (try replace hV := Lib.hid (hV.out.ext hq))
            (try replace hX := Lib.hid (hX.out.ext hq))
            (try replace hY := Lib.hid (hY.out.ext hq))
            replace hE := Lib.hid (hE.out.trans hq)
            clear hq
            refine hQ0 _ _ ?_
            clear hQ0 Q0
            clear hcell hco hwi hJ
            go_wp2_with fail
            refine (rNumbers_calls _ _ cl cl _ hU.out hV.out).mono ?_
            rw [decide_eq_true rfl]
            rintro e wM ⟨rfl, hq⟩
            (try replace hA1 := Lib.hid ((Keep.of_ext (X := fun _ => False) hq).blk hA1.out id))
            (try replace hWB := Lib.hid ((Keep.of_ext (X := fun _ => False) hq).blk hWB.out id))
            (try replace hVB := Lib.hid ((Keep.of_ext (X := fun _ => False) hq).blk hVB.out id))
            (try replace hFB := Lib.hid ((Keep.of_ext (X := fun _ => False) hq).blk hFB.out id))
            (try replace hI := Lib.hid (hI.out.ext hq))
            (try replace hJ := Lib.hid (hJ.out.ext hq))
            (try replace hF := Lib.hid (hF.out.ext hq))
            (try replace hU := Lib.hid (hU.out.ext hq))
            (try replace hV := Lib.hid (hV.out.ext hq))
            (try replace hX := Lib.hid (hX.out.ext hq))
            (try replace hY := Lib.hid (hY.out.ext hq))
            replace hE := Lib.hid (hE.out.trans hq)
            clear hq
            clear hU hV
            go_wp2_with fail
            refine (rSameMarks_calls _ _ wl wl _ hX.out hY.out).mono ?_
            rw [sameM_self]
            rintro e wN ⟨rfl, hq⟩
            (try replace hA1 := Lib.hid ((Keep.of_ext (X := fun _ => False) hq).blk hA1.out id))
            (try replace hWB := Lib.hid ((Keep.of_ext (X := fun _ => False) hq).blk hWB.out id))
            (try replace hVB := Lib.hid ((Keep.of_ext (X := fun _ => False) hq).blk hVB.out id))
            (try replace hFB := Lib.hid ((Keep.of_ext (X := fun _ => False) hq).blk hFB.out id))
            (try replace hI := Lib.hid (hI.out.ext hq))
            (try replace hJ := Lib.hid (hJ.out.ext hq))
            (try replace hF := Lib.hid (hF.out.ext hq))
            (try replace hU := Lib.hid (hU.out.ext hq))
            (try replace hV := Lib.hid (hV.out.ext hq))
            (try replace hX := Lib.hid (hX.out.ext hq))
            (try replace hY := Lib.hid (hY.out.ext hq))
            replace hE := Lib.hid (hE.out.trans hq)
            clear hq
            clear hX hY
            go_wp2
            go_roundw
            case rel => first | exact ⟨j + 1, hj2, by go_num, hA1, hWB, hVB, hI, hF, hE⟩ | ((repeat apply Exists.intro); exact ⟨⟨j + 1, hj2, by go_num, hA1, hWB, hVB, hI, hF, hE⟩, rfl⟩)
            case measure => simp [intOf]; omega
          · go_wp2
            go_ret
            exact ⟨rfl, hE.out⟩
      · clear hin
        rename World => wF
        go_upto_region 14 with (fail)
        refine wp_abs (S := fun W => Hid (Ext wF W) ∧ Hid (Blk W wF.heap.size 22 #[.slice iA view.length iC, .slice (some ⟨w3.heap.size, 0, none⟩) n n])) ⟨Lib.hid (by exact (by repeat' (first | (with_reducible exact Ext.refl _) | (with_reducible assumption) | (with_reducible refine Ext.drewN ?_ _) | (with_reducible refine Ext.drew ?_) | (with_reducible refine Ext.alloc ?_ _) | (with_reducible refine Ext.trans ?_ (by with_reducible assumption))))), Lib.hid (blk_new' rfl rfl)⟩ ?_
        rintro wG ⟨hx9, hVB⟩
        have hq := hx9.out
        clear hx9 hi hs5
        (try clear hA)
        (try clear hB)
        replace hA1 := Lib.hid ((Keep.of_ext (X := fun _ => False) hq).blk hA1.out id)
        replace hWB := Lib.hid ((Keep.of_ext (X := fun _ => False) hq).blk hWB.out id)
        replace hI := Lib.hid (hI.out.ext hq)
        replace hF := Lib.hid (hF.out.ext hq)
        replace hE := Lib.hid (hE.out.trans hq)
        clear hq
        generalize wF.heap.size = vb at *
        go_wp2_with fail
        go_loopw [12] (fun vi wr => ∃ j : Nat, j ≤ 2 ∧ vi = .int .i64 j ∧ Hid (Blk wr w.heap.size 25 #[.int .i64 gr, .int .i64 tr, .int .u8 a, .int .u8 b]) ∧ Hid (Blk wr gw 28 #[.int .i64 f, .int .i64 t]) ∧ Hid (Blk wr vb 22 #[.slice iA view.length iC, .slice (some ⟨w3.heap.size, 0, none⟩) n n]) ∧ Hid (Ints wr (.slice iA view.length iC) view) ∧ Hid (Ints wr (.slice (some ⟨w3.heap.size, 0, none⟩) n n) L) ∧ Hid (Ext w wr)) (fun vi _ => 2 - (intOf vi).toNat)
        case atStart => exact ⟨0, by omega, rfl, hA1, hWB, hVB, hI, hF, hE⟩
        case round =>
          clear hA1 hWB hVB hI hF hE
          obtain ⟨j, hj, rfl, hA1, hWB, hVB, hI, hF, hE⟩ := hrel
          by_cases hj2 : j < 2
          · obtain ⟨lA, lC, K, hcell, hJ⟩ : ∃ lA lC K, (∀ W, Blk W vb 22 #[.slice iA view.length iC, .slice (some ⟨w3.heap.size, 0, none⟩) n n] → W.cell? ⟨vb, j, none⟩ = some (.slice lA K.length lC)) ∧ Hid (Ints wr (.slice lA K.length lC) K) := by
              by_cases hj0 : j = 0
              · subst hj0
                exact ⟨iA, iC, view, fun W h => h.cell 0, hI⟩
              · obtain rfl : j = 1 := by omega
                refine ⟨some ⟨w3.heap.size, 0, none⟩, n, L, fun W h => ?_, ?_⟩
                · rw [hL.out]
                  exact h.cell 1
                · rw [hL.out]
                  exact hF
            have hcell := Lib.hid hcell
            obtain ⟨cl, ce, hco⟩ : ∃ x e, Hid (coarserG K g tr f t = (x, e)) := ⟨_, _, rfl⟩
            obtain ⟨wl, we, hwi⟩ : ∃ x e, Hid (witG K g f t = (x, e)) := ⟨_, _, rfl⟩
            have z0 := After.cell (show wr.cell? ⟨w.heap.size, 0, none⟩ = some (.int .i64 gr) from hA1.out.cell 0)
            have z1 := After.cell (show wr.cell? ⟨w.heap.size, 1, none⟩ = some (.int .i64 tr) from hA1.out.cell 1)
            have z2 := After.cell (show wr.cell? ⟨gw, 0, none⟩ = some (.int .i64 f) from hWB.out.cell 0)
            have z3 := After.cell (show wr.cell? ⟨gw, 1, none⟩ = some (.int .i64 t) from hWB.out.cell 1)
            have z4 := After.cell (hcell.out wr hVB.out)
            go_upto_region 17 with (fail)
            (refine wp_region_held [] [0, 1, 2, 3, 4, 5, 6, 7, 8, 9, 10, 11, 12, 13, 14, 15] [] (CoCon g ce cl) (by kernel_rfl) (by kernel_rfl) ?_; simp only [pickL]; with_reducible refine wpQuiet_nil ?_)
            (refine held_quiet [0, 1, 2, 3, 4, 5] [6, 7, 8, 9, 10, 11, 12, 13, 14, 15] (by kernel_rfl) (by kernel_rfl) ?_; simp only [pickL, List.drop]; (repeat (go_big_quiet_step (fail))); with_reducible refine wpQuiet_nil ?_)
            (refine held_call 6 [7, 8, 9, 10, 11, 12, 13, 14, 15] rfl (by kernel_rfl) 13 (#[.int .i64 gr]) (fun W => by kernel_rfl) rfl ?_ ?_ ?_)
            · exact fun W W' v e hh => ⟨hh.1, fun h => let ⟨u, h1, h2⟩ := hh.2 h; ⟨u, h1, h2.ext e⟩⟩
            · refine fun W hW _ => (hgrain.out W).mono ?_
              rintro e W' ⟨rfl, hxx⟩
              exact ⟨_, rfl, hxx, ⟨fun _ => rfl, (fun h => by cases h)⟩⟩
            rintro vg ⟨Y, hY, hCv⟩
            obtain rfl := hCv.1 rfl
            clear hCv hY Y
            simp only [Act.put, List.setIfInBounds_toArray, List.set_cons_succ, List.set_cons_zero]
            (refine held_quiet [7, 8, 9] [10, 11, 12, 13, 14, 15] (by kernel_rfl) (by kernel_rfl) ?_; simp only [pickL, List.drop]; (repeat (go_big_quiet_step (fail))); with_reducible refine wpQuiet_nil ?_)
            (refine held_call 10 [11, 12, 13, 14, 15] rfl (by kernel_rfl) 15 (#[.slice lA K.length lC, .int .i64 g, .int .i64 tr, .agg #[.int .i64 f, .int .i64 t]]) (fun W => by kernel_rfl) rfl ?_ ?_ ?_)
            · exact fun W W' v e hh => ⟨hh.1, fun h => let ⟨u, h1, h2⟩ := hh.2 h; ⟨u, h1, h2.ext e⟩⟩
            · refine fun W hW _ => (coarser_calls _ K g tr f t W (hJ.out.ext hW)).mono ?_
              rw [hco.out]
              rintro e W' ⟨u, rfl, hu, hxx⟩
              exact ⟨_, rfl, hxx, ⟨(fun h => by cases h), fun _ => ⟨u, rfl, hu⟩⟩⟩
            rintro vg ⟨Y, hY, hCv⟩
            obtain ⟨u, rfl, hu⟩ := hCv.2 rfl
            obtain ⟨UA, UC, rfl⟩ := hu.form
            clear hCv hY hu Y
            simp only [Act.put, List.setIfInBounds_toArray, List.set_cons_succ, List.set_cons_zero]
            (refine held_quiet [11, 12, 13, 14, 15] [] (by kernel_rfl) (by kernel_rfl) ?_; simp only [pickL, List.drop]; (repeat (go_big_quiet_step (fail))); with_reducible refine wpQuiet_nil ?_)
            intro wH hq hfc htk Q0 hQ0
            have hU : Hid (Nums wH (.slice UA cl.length UC) cl) := by
              obtain ⟨u2, e2, h2⟩ := ((hfc 10).2 rfl).2 rfl
              cases e2
              exact Lib.hid h2
            simp only [pickL]
            clear hfc htk z0 z1 z2 z3 z4
            skip
            (try replace hA1 := Lib.hid ((Keep.of_ext (X := fun _ => False) hq).blk hA1.out id))
            (try replace hWB := Lib.hid ((Keep.of_ext (X := fun _ => False) hq).blk hWB.out id))
            (try replace hVB := Lib.hid ((Keep.of_ext (X := fun _ => False) hq).blk hVB.out id))
            (try replace hFB := Lib.hid ((Keep.of_ext (X := fun _ => False) hq).blk hFB.out id))
            (try replace hI := Lib.hid (hI.out.ext hq))
            (try replace hJ := Lib.hid (hJ.out.ext hq))
            (try replace hF := Lib.hid (hF.out.ext hq))
            (try replace hU := Lib.hid (hU.out.ext hq))
            (try replace hV := Lib.hid (hV.out.ext hq))
            (try replace hX := Lib.hid (hX.out.ext hq))
            (try replace hY := Lib.hid (hY.out.ext hq))
            replace hE := Lib.hid (hE.out.trans hq)
            clear hq
            refine hQ0 _ _ ?_
            clear hQ0 Q0
            have z0 := After.cell (show wH.cell? ⟨w.heap.size, 0, none⟩ = some (.int .i64 gr) from hA1.out.cell 0)
            have z1 := After.cell (show wH.cell? ⟨w.heap.size, 1, none⟩ = some (.int .i64 tr) from hA1.out.cell 1)
            have z2 := After.cell (show wH.cell? ⟨gw, 0, none⟩ = some (.int .i64 f) from hWB.out.cell 0)
            have z3 := After.cell (show wH.cell? ⟨gw, 1, none⟩ = some (.int .i64 t) from hWB.out.cell 1)
            have z4 := After.cell (hcell.out wH hVB.out)
            go_upto_region 18 with (fail)
            (refine wp_region_held [] [0, 1, 2, 3, 4, 5, 6, 7, 8, 9, 10, 11, 12, 13, 14, 15] [] (CoCon g ce cl) (by kernel_rfl) (by kernel_rfl) ?_; simp only [pickL]; with_reducible refine wpQuiet_nil ?_)
            (refine held_quiet [0, 1, 2, 3, 4, 5] [6, 7, 8, 9, 10, 11, 12, 13, 14, 15] (by kernel_rfl) (by kernel_rfl) ?_; simp only [pickL, List.drop]; (repeat (go_big_quiet_step (fail))); with_reducible refine wpQuiet_nil ?_)
            (refine held_call 6 [7, 8, 9, 10, 11, 12, 13, 14, 15] rfl (by kernel_rfl) 13 (#[.int .i64 gr]) (fun W => by kernel_rfl) rfl ?_ ?_ ?_)
            · exact fun W W' v e hh => ⟨hh.1, fun h => let ⟨u, h1, h2⟩ := hh.2 h; ⟨u, h1, h2.ext e⟩⟩
            · refine fun W hW _ => (hgrain.out W).mono ?_
              rintro e W' ⟨rfl, hxx⟩
              exact ⟨_, rfl, hxx, ⟨fun _ => rfl, (fun h => by cases h)⟩⟩
            rintro vg ⟨Y, hY, hCv⟩
            obtain rfl := hCv.1 rfl
            clear hCv hY Y
            simp only [Act.put, List.setIfInBounds_toArray, List.set_cons_succ, List.set_cons_zero]
            (refine held_quiet [7, 8, 9] [10, 11, 12, 13, 14, 15] (by kernel_rfl) (by kernel_rfl) ?_; simp only [pickL, List.drop]; (repeat (go_big_quiet_step (fail))); with_reducible refine wpQuiet_nil ?_)
            (refine held_call 10 [11, 12, 13, 14, 15] rfl (by kernel_rfl) 16 (#[.slice lA K.length lC, .int .i64 g, .int .i64 tr, .agg #[.int .i64 f, .int .i64 t]]) (fun W => by kernel_rfl) rfl ?_ ?_ ?_)
            · exact fun W W' v e hh => ⟨hh.1, fun h => let ⟨u, h1, h2⟩ := hh.2 h; ⟨u, h1, h2.ext e⟩⟩
            · refine fun W hW _ => (rCoarser_calls _ K g tr f t W (hJ.out.ext hW)).mono ?_
              rw [hco.out]
              rintro e W' ⟨u, rfl, hu, hxx⟩
              exact ⟨_, rfl, hxx, ⟨(fun h => by cases h), fun _ => ⟨u, rfl, hu⟩⟩⟩
            rintro vg ⟨Y, hY, hCv⟩
            obtain ⟨u, rfl, hu⟩ := hCv.2 rfl
            obtain ⟨VA, VC, rfl⟩ := hu.form
            clear hCv hY hu Y
            simp only [Act.put, List.setIfInBounds_toArray, List.set_cons_succ, List.set_cons_zero]
            (refine held_quiet [11, 12, 13, 14, 15] [] (by kernel_rfl) (by kernel_rfl) ?_; simp only [pickL, List.drop]; (repeat (go_big_quiet_step (fail))); with_reducible refine wpQuiet_nil ?_)
            intro wI hq hfc htk Q0 hQ0
            have hV : Hid (Nums wI (.slice VA cl.length VC) cl) := by
              obtain ⟨u2, e2, h2⟩ := ((hfc 10).2 rfl).2 rfl
              cases e2
              exact Lib.hid h2
            simp only [pickL]
            clear hfc htk z0 z1 z2 z3 z4
            skip
            (try replace hA1 := Lib.hid ((Keep.of_ext (X := fun _ => False) hq).blk hA1.out id))
            (try replace hWB := Lib.hid ((Keep.of_ext (X := fun _ => False) hq).blk hWB.out id))
            (try replace hVB := Lib.hid ((Keep.of_ext (X := fun _ => False) hq).blk hVB.out id))
            (try replace hFB := Lib.hid ((Keep.of_ext (X := fun _ => False) hq).blk hFB.out id))
            (try replace hI := Lib.hid (hI.out.ext hq))
            (try replace hJ := Lib.hid (hJ.out.ext hq))
            (try replace hF := Lib.hid (hF.out.ext hq))
            (try replace hU := Lib.hid (hU.out.ext hq))
            (try replace hV := Lib.hid (hV.out.ext hq))
            (try replace hX := Lib.hid (hX.out.ext hq))
            (try replace hY := Lib.hid (hY.out.ext hq))
            replace hE := Lib.hid (hE.out.trans hq)
            clear hq
            refine hQ0 _ _ ?_
            clear hQ0 Q0
            have z0 := After.cell (show wI.cell? ⟨w.heap.size, 0, none⟩ = some (.int .i64 gr) from hA1.out.cell 0)
            have z1 := After.cell (show wI.cell? ⟨w.heap.size, 1, none⟩ = some (.int .i64 tr) from hA1.out.cell 1)
            have z2 := After.cell (show wI.cell? ⟨gw, 0, none⟩ = some (.int .i64 f) from hWB.out.cell 0)
            have z3 := After.cell (show wI.cell? ⟨gw, 1, none⟩ = some (.int .i64 t) from hWB.out.cell 1)
            have z4 := After.cell (hcell.out wI hVB.out)
            clear z1
            go_upto_region 19 with (fail)
            (refine wp_region_held [] [0, 1, 2, 3, 4, 5, 6, 7, 8, 9, 10, 11, 12, 13] [] (WiCon g we wl) (by kernel_rfl) (by kernel_rfl) ?_; simp only [pickL]; with_reducible refine wpQuiet_nil ?_)
            (refine held_quiet [0, 1, 2, 3, 4, 5] [6, 7, 8, 9, 10, 11, 12, 13] (by kernel_rfl) (by kernel_rfl) ?_; simp only [pickL, List.drop]; (repeat (go_big_quiet_step (fail))); with_reducible refine wpQuiet_nil ?_)
            (refine held_call 6 [7, 8, 9, 10, 11, 12, 13] rfl (by kernel_rfl) 13 (#[.int .i64 gr]) (fun W => by kernel_rfl) rfl ?_ ?_ ?_)
            · exact fun W W' v e hh => ⟨hh.1, fun h => let ⟨u, h1, h2⟩ := hh.2 h; ⟨u, h1, h2.ext e⟩⟩
            · refine fun W hW _ => (hgrain.out W).mono ?_
              rintro e W' ⟨rfl, hxx⟩
              exact ⟨_, rfl, hxx, ⟨fun _ => rfl, (fun h => by cases h)⟩⟩
            rintro vg ⟨Y, hY, hCv⟩
            obtain rfl := hCv.1 rfl
            clear hCv hY Y
            simp only [Act.put, List.setIfInBounds_toArray, List.set_cons_succ, List.set_cons_zero]
            (refine held_quiet [7] [8, 9, 10, 11, 12, 13] (by kernel_rfl) (by kernel_rfl) ?_; simp only [pickL, List.drop]; (repeat (go_big_quiet_step (fail))); with_reducible refine wpQuiet_nil ?_)
            (refine held_call 8 [9, 10, 11, 12, 13] rfl (by kernel_rfl) 17 (#[.slice lA K.length lC, .int .i64 g, .agg #[.int .i64 f, .int .i64 t]]) (fun W => by kernel_rfl) rfl ?_ ?_ ?_)
            · exact fun W W' v e hh => ⟨hh.1, fun h => let ⟨u, h1, h2⟩ := hh.2 h; ⟨u, h1, h2.ext e⟩⟩
            · refine fun W hW _ => (witness_calls _ K g f t W (hJ.out.ext hW)).mono ?_
              rw [hwi.out]
              rintro e W' ⟨u, rfl, hu, hxx⟩
              exact ⟨_, rfl, hxx, ⟨(fun h => by cases h), fun _ => ⟨u, rfl, hu.read⟩⟩⟩
            rintro vg ⟨Y, hY, hCv⟩
            obtain ⟨u, rfl, hu⟩ := hCv.2 rfl
            obtain ⟨XA, XC, rfl⟩ := hu.form
            clear hCv hY hu Y
            simp only [Act.put, List.setIfInBounds_toArray, List.set_cons_succ, List.set_cons_zero]
            (refine held_quiet [9, 10, 11, 12, 13] [] (by kernel_rfl) (by kernel_rfl) ?_; simp only [pickL, List.drop]; (repeat (go_big_quiet_step (fail))); with_reducible refine wpQuiet_nil ?_)
            intro wJ hq hfc htk Q0 hQ0
            have hX : Hid (Marks wJ (.slice XA wl.length XC) wl) := by
              obtain ⟨u2, e2, h2⟩ := ((hfc 8).2 rfl).2 rfl
              cases e2
              exact Lib.hid h2
            simp only [pickL]
            clear hfc htk z0 z2 z3 z4
            skip
            (try replace hA1 := Lib.hid ((Keep.of_ext (X := fun _ => False) hq).blk hA1.out id))
            (try replace hWB := Lib.hid ((Keep.of_ext (X := fun _ => False) hq).blk hWB.out id))
            (try replace hVB := Lib.hid ((Keep.of_ext (X := fun _ => False) hq).blk hVB.out id))
            (try replace hFB := Lib.hid ((Keep.of_ext (X := fun _ => False) hq).blk hFB.out id))
            (try replace hI := Lib.hid (hI.out.ext hq))
            (try replace hJ := Lib.hid (hJ.out.ext hq))
            (try replace hF := Lib.hid (hF.out.ext hq))
            (try replace hU := Lib.hid (hU.out.ext hq))
            (try replace hV := Lib.hid (hV.out.ext hq))
            (try replace hX := Lib.hid (hX.out.ext hq))
            (try replace hY := Lib.hid (hY.out.ext hq))
            replace hE := Lib.hid (hE.out.trans hq)
            clear hq
            refine hQ0 _ _ ?_
            clear hQ0 Q0
            have z0 := After.cell (show wJ.cell? ⟨w.heap.size, 0, none⟩ = some (.int .i64 gr) from hA1.out.cell 0)
            have z1 := After.cell (show wJ.cell? ⟨w.heap.size, 1, none⟩ = some (.int .i64 tr) from hA1.out.cell 1)
            have z2 := After.cell (show wJ.cell? ⟨gw, 0, none⟩ = some (.int .i64 f) from hWB.out.cell 0)
            have z3 := After.cell (show wJ.cell? ⟨gw, 1, none⟩ = some (.int .i64 t) from hWB.out.cell 1)
            have z4 := After.cell (hcell.out wJ hVB.out)
            clear z1
            go_upto_region 20 with (fail)
            (refine wp_region_held [] [0, 1, 2, 3, 4, 5, 6, 7, 8, 9, 10, 11, 12, 13] [] (WiCon g we wl) (by kernel_rfl) (by kernel_rfl) ?_; simp only [pickL]; with_reducible refine wpQuiet_nil ?_)
            (refine held_quiet [0, 1, 2, 3, 4, 5] [6, 7, 8, 9, 10, 11, 12, 13] (by kernel_rfl) (by kernel_rfl) ?_; simp only [pickL, List.drop]; (repeat (go_big_quiet_step (fail))); with_reducible refine wpQuiet_nil ?_)
            (refine held_call 6 [7, 8, 9, 10, 11, 12, 13] rfl (by kernel_rfl) 13 (#[.int .i64 gr]) (fun W => by kernel_rfl) rfl ?_ ?_ ?_)
            · exact fun W W' v e hh => ⟨hh.1, fun h => let ⟨u, h1, h2⟩ := hh.2 h; ⟨u, h1, h2.ext e⟩⟩
            · refine fun W hW _ => (hgrain.out W).mono ?_
              rintro e W' ⟨rfl, hxx⟩
              exact ⟨_, rfl, hxx, ⟨fun _ => rfl, (fun h => by cases h)⟩⟩
            rintro vg ⟨Y, hY, hCv⟩
            obtain rfl := hCv.1 rfl
            clear hCv hY Y
            simp only [Act.put, List.setIfInBounds_toArray, List.set_cons_succ, List.set_cons_zero]
            (refine held_quiet [7] [8, 9, 10, 11, 12, 13] (by kernel_rfl) (by kernel_rfl) ?_; simp only [pickL, List.drop]; (repeat (go_big_quiet_step (fail))); with_reducible refine wpQuiet_nil ?_)
            (refine held_call 8 [9, 10, 11, 12, 13] rfl (by kernel_rfl) 18 (#[.slice lA K.length lC, .int .i64 g, .agg #[.int .i64 f, .int .i64 t]]) (fun W => by kernel_rfl) rfl ?_ ?_ ?_)
            · exact fun W W' v e hh => ⟨hh.1, fun h => let ⟨u, h1, h2⟩ := hh.2 h; ⟨u, h1, h2.ext e⟩⟩
            · refine fun W hW _ => (rWitness_calls _ K g f t W (hJ.out.ext hW)).mono ?_
              rw [hwi.out]
              rintro e W' ⟨u, rfl, hu, hxx⟩
              exact ⟨_, rfl, hxx, ⟨(fun h => by cases h), fun _ => ⟨u, rfl, hu.read⟩⟩⟩
            rintro vg ⟨Y, hY, hCv⟩
            obtain ⟨u, rfl, hu⟩ := hCv.2 rfl
            obtain ⟨YA, YC, rfl⟩ := hu.form
            clear hCv hY hu Y
            simp only [Act.put, List.setIfInBounds_toArray, List.set_cons_succ, List.set_cons_zero]
            (refine held_quiet [9, 10, 11, 12, 13] [] (by kernel_rfl) (by kernel_rfl) ?_; simp only [pickL, List.drop]; (repeat (go_big_quiet_step (fail))); with_reducible refine wpQuiet_nil ?_)
            intro wK hq hfc htk Q0 hQ0
            have hY : Hid (Marks wK (.slice YA wl.length YC) wl) := by
              obtain ⟨u2, e2, h2⟩ := ((hfc 8).2 rfl).2 rfl
              cases e2
              exact Lib.hid h2
            simp only [pickL]
            clear hfc htk z0 z2 z3 z4
            skip
            (try replace hA1 := Lib.hid ((Keep.of_ext (X := fun _ => False) hq).blk hA1.out id))
            (try replace hWB := Lib.hid ((Keep.of_ext (X := fun _ => False) hq).blk hWB.out id))
            (try replace hVB := Lib.hid ((Keep.of_ext (X := fun _ => False) hq).blk hVB.out id))
            (try replace hFB := Lib.hid ((Keep.of_ext (X := fun _ => False) hq).blk hFB.out id))
            (try replace hI := Lib.hid (hI.out.ext hq))
            (try replace hJ := Lib.hid (hJ.out.ext hq))
            (try replace hF := Lib.hid (hF.out.ext hq))
            (try replace hU := Lib.hid (hU.out.ext hq))
            (try replace hV := Lib.hid (hV.out.ext hq))
            (try replace hX := Lib.hid (hX.out.ext hq))
            (try replace hY := Lib.hid (hY.out.ext hq))
            replace hE := Lib.hid (hE.out.trans hq)
            clear hq
            refine hQ0 _ _ ?_
            clear hQ0 Q0
            clear hcell hco hwi hJ
            go_wp2_with fail
            refine (rNumbers_calls _ _ cl cl _ hU.out hV.out).mono ?_
            rw [decide_eq_true rfl]
            rintro e wM ⟨rfl, hq⟩
            (try replace hA1 := Lib.hid ((Keep.of_ext (X := fun _ => False) hq).blk hA1.out id))
            (try replace hWB := Lib.hid ((Keep.of_ext (X := fun _ => False) hq).blk hWB.out id))
            (try replace hVB := Lib.hid ((Keep.of_ext (X := fun _ => False) hq).blk hVB.out id))
            (try replace hFB := Lib.hid ((Keep.of_ext (X := fun _ => False) hq).blk hFB.out id))
            (try replace hI := Lib.hid (hI.out.ext hq))
            (try replace hJ := Lib.hid (hJ.out.ext hq))
            (try replace hF := Lib.hid (hF.out.ext hq))
            (try replace hU := Lib.hid (hU.out.ext hq))
            (try replace hV := Lib.hid (hV.out.ext hq))
            (try replace hX := Lib.hid (hX.out.ext hq))
            (try replace hY := Lib.hid (hY.out.ext hq))
            replace hE := Lib.hid (hE.out.trans hq)
            clear hq
            clear hU hV
            go_wp2_with fail
            refine (rSameMarks_calls _ _ wl wl _ hX.out hY.out).mono ?_
            rw [sameM_self]
            rintro e wN ⟨rfl, hq⟩
            (try replace hA1 := Lib.hid ((Keep.of_ext (X := fun _ => False) hq).blk hA1.out id))
            (try replace hWB := Lib.hid ((Keep.of_ext (X := fun _ => False) hq).blk hWB.out id))
            (try replace hVB := Lib.hid ((Keep.of_ext (X := fun _ => False) hq).blk hVB.out id))
            (try replace hFB := Lib.hid ((Keep.of_ext (X := fun _ => False) hq).blk hFB.out id))
            (try replace hI := Lib.hid (hI.out.ext hq))
            (try replace hJ := Lib.hid (hJ.out.ext hq))
            (try replace hF := Lib.hid (hF.out.ext hq))
            (try replace hU := Lib.hid (hU.out.ext hq))
            (try replace hV := Lib.hid (hV.out.ext hq))
            (try replace hX := Lib.hid (hX.out.ext hq))
            (try replace hY := Lib.hid (hY.out.ext hq))
            replace hE := Lib.hid (hE.out.trans hq)
            clear hq
            clear hX hY
            go_wp2
            go_roundw
            case rel => first | exact ⟨j + 1, hj2, by go_num, hA1, hWB, hVB, hI, hF, hE⟩ | ((repeat apply Exists.intro); exact ⟨⟨j + 1, hj2, by go_num, hA1, hWB, hVB, hI, hF, hE⟩, rfl⟩)
            case measure => simp [intOf]; omega
          · go_wp2
            go_ret
            exact ⟨rfl, hE.out⟩
end Go.Proofs.Ytcmcojmhlgknoaa
