/- The law CoarseMatchesReference, walked: true for every list of numbers, every list of marks and every list of spans. -/
import Derived.Test.YtcmcojmhlgknoaaGV
import Derived.Test.YtcmcojmhlgknoaaGArgs
namespace Go.Proofs.Ytcmcojmhlgknoaa
open Go.RowKit

set_option maxHeartbeats 12800000 in
set_option maxRecDepth 100000 in
theorem coarseMatchesReference_calls (va : Value) (l : List T16) (vr : Value) (raw : List MarkD) (vq : Value) (q : List (Int × Int)) (w : World) (hl : Tri16 w va l) (hr : Marks w vr raw) (hs : Spans w vq q) :
    Calls Try.prog 6 #[va, vr, vq] w fun e w' => e = .returned (.bool true) ∧ Ext w w' := by
  have hL := Lib.hid hl
  have hW := Lib.hid hr
  have hS := Lib.hid hs
  obtain ⟨lA, lC, rfl⟩ := hl.form
  obtain ⟨rA, rC, rfl⟩ := hr.form
  obtain ⟨qA, qC, rfl⟩ := hs.form
  clear hl hr hs
  obtain ⟨m1, hm1⟩ : ∃ m, Hid (madeL l = m) := ⟨_, rfl⟩
  have hlen1 : m1.length ≤ 6 := hm1.out ▸ made_len l
  go_enter Try.func6, Try.ntmps6
  go_wp2_with fail
  refine (sanity_calls _).mono ?_
  rintro e w1 ⟨rfl, hq⟩
  have hE := Lib.hid hq
  replace hW := Lib.hid (hW.out.ext hq)
  replace hS := Lib.hid (hS.out.ext hq)
  clear hq
  by_cases h1 : 20 < raw.length
  · have d1 : decide (20 < (raw.length : Int)) = true := decide_eq_true (by omega)
    go_wp2
    go_ret
    exact ⟨rfl, hE.out⟩
  have d1 : decide (20 < (raw.length : Int)) = false := decide_eq_false (by omega)
  by_cases h2 : 40 < q.length
  · have d2 : decide (40 < (q.length : Int)) = true := decide_eq_true (by omega)
    go_wp2
    go_ret
    exact ⟨rfl, hE.out⟩
  have d2 : decide (40 < (q.length : Int)) = false := decide_eq_false (by omega)
  go_wp2_with fail
  refine (rMade_calls _ l _ (hL.out.ext hE.out)).mono ?_
  rintro e w2 ⟨vm, rfl, hm, hq⟩
  rw [hm1.out] at hm
  obtain ⟨mA, mC, rfl⟩ := hm.read.form
  (try replace hM := Lib.hid (hM.out.ext hq))
  (try replace hW := Lib.hid (hW.out.ext hq))
  (try replace hS := Lib.hid (hS.out.ext hq))
  (try replace hB := Lib.hid ((Keep.of_ext (X := fun _ => False) hq).blk hB.out id))
  (try replace hU := Lib.hid (hU.out.ext hq))
  (try replace hV := Lib.hid (hV.out.ext hq))
  (try replace hX := Lib.hid (hX.out.ext hq))
  (try replace hY := Lib.hid (hY.out.ext hq))
  replace hE := Lib.hid (hE.out.trans hq)
  clear hq
  have hM := Lib.hid hm.read
  clear hm hL hm1 d1 d2
  go_wp2_with fail
  go_loopw [9] (fun vi wr => ∃ k : Nat, k ≤ 7 ∧ vi = .int .i64 ((k : Int) - 1) ∧ Hid (Marks wr (.slice mA m1.length mC) m1) ∧ Hid (Marks wr (.slice rA raw.length rC) raw) ∧ Hid (Spans wr (.slice qA q.length qC) q) ∧ Hid (Ext w wr)) (fun vi _ => (6 - intOf vi).toNat)
  case atStart => exact ⟨0, by omega, rfl, hM, hW, hS, hE⟩
  case round =>
    clear hM hW hS hE
    obtain ⟨k, hk, rfl, hM, hW, hS, hE⟩ := hrel
    obtain ⟨g, hg⟩ : ∃ g, (k : Int) - 1 = g := ⟨_, rfl⟩
    rw [hg]
    by_cases h3 : g ≤ 5
    · rename World => wO
      go_wp2_with fail
      go_loopw [10] (fun vi wr => ∃ i : Nat, i ≤ 2 ∧ i ≤ q.length ∧ vi = .int .i64 i ∧ Hid (Marks wr (.slice mA m1.length mC) m1) ∧ Hid (Marks wr (.slice rA raw.length rC) raw) ∧ Hid (Spans wr (.slice qA q.length qC) q) ∧ Hid (Ext w wr)) (fun vi _ => 2 - (intOf vi).toNat)
      case atStart => exact ⟨0, by omega, by omega, rfl, hM, hW, hS, hE⟩
      case round =>
        clear hM hW hS hE
        obtain ⟨i, hi2, hi, rfl, hM, hW, hS, hE⟩ := hrel
        by_cases h4 : i < q.length
        · by_cases h5 : i < 2
          · have hsp : Hid (SpansAt qA wr q) := by
              obtain ⟨_, _, e, _, _, h⟩ := hS.out.open
              cases e
              exact Lib.hid h
            obtain ⟨b1, o1, qx, qy, rfl, hb1, _, ex, g1, g2⟩ := hsp.out i h4 wr (Ext.refl _)
            clear hsp
            have d5 : decide ((i : Int) < 2) = true := decide_eq_true (by omega)
            go_upto_region 12 with (fail)
            obtain ⟨bb, hbb⟩ : ∃ b, Hid (wr.heap.size = b) := ⟨_, rfl⟩
            refine wp_abs (S := fun W => Hid (Ext wr W) ∧ Hid (Blk W bb 28 #[.int .i64 qx, .int .i64 qy])) ⟨Lib.hid (by exact (by repeat' (first | (with_reducible exact Ext.refl _) | (with_reducible assumption) | (with_reducible refine Ext.drewN ?_ _) | (with_reducible refine Ext.drew ?_) | (with_reducible refine Ext.alloc ?_ _) | (with_reducible refine Ext.trans ?_ (by with_reducible assumption))))), Lib.hid (blk_new' hbb.out.symm rfl)⟩ ?_
            rintro wp ⟨hxp, hB⟩
            have k0 : wp.cell? ⟨bb, 0, none⟩ = some (.int .i64 qx) := hB.out.cell 0
            have k1 : wp.cell? ⟨bb, 1, none⟩ = some (.int .i64 qy) := hB.out.cell 1
            have kl := hB.out.lt
            clear g1 g2 d5
            rw [hbb.out]
            obtain ⟨dd, hdd⟩ : ∃ d, wrap64 (qy - qx) = d := ⟨_, rfl⟩
            by_cases c1 : 3000 < dd
            · have c1' : decide (3000 < dd) = true := decide_eq_true c1
              by_cases c2 : qx ≤ qy
              · have c2' : decide (qx ≤ qy) = true := decide_eq_true c2
                by_cases c3 : qy ≤ 2251799813685248
                · have c3' : decide (qy ≤ 2251799813685248) = true := decide_eq_true c3
                  obtain ⟨r, hr⟩ : ∃ r, dd.tmod 3000 = r := ⟨_, rfl⟩
                  obtain ⟨t, ht⟩ : ∃ t, wrap64 (qx + r) = t := ⟨_, rfl⟩
                  have fr := hB.out.frozen 1
                  clear c1 c2 c3
                  go_upto_region 14 with (fail)
                  refine wp_abs (S := fun W => Hid (Ext wr W) ∧ Hid (Blk W bb 28 #[.int .i64 qx, .int .i64 t])) ⟨Lib.hid (hxp.out.setCell (by show wr.heap.size ≤ bb; rw [hbb.out]; exact Nat.le_refl _) _), Lib.hid (hB.out.set_ 1 _)⟩ ?_
                  clear k0 k1 kl hxp hB hr ht hdd c1' c2' c3' fr
                  rintro wn ⟨hxp, hB⟩
                  have hq := hxp.out
                  clear hxp
                  replace hM := Lib.hid (hM.out.ext hq)
                  replace hW := Lib.hid (hW.out.ext hq)
                  replace hS := Lib.hid (hS.out.ext hq)
                  replace hE := Lib.hid (hE.out.trans hq)
                  clear hq
                  obtain ⟨x1, e1, r1⟩ : ∃ x e, Hid (viewG m1 g qx t = (x, e)) := ⟨_, _, rfl⟩
                  obtain ⟨x2, e2, r2⟩ : ∃ x e, Hid (viewG raw g qx t = (x, e)) := ⟨_, _, rfl⟩
                  obtain ⟨s1, e3, r3⟩ : ∃ x e, Hid (sameG m1 raw g qx t = (x, e)) := ⟨_, _, rfl⟩
                  obtain ⟨n1, e4, r4⟩ : ∃ x e, Hid (cellsG g qx qy = (x, e)) := ⟨_, _, rfl⟩
                  have b0 : wn.cell? ⟨bb, 0, none⟩ = some (.int .i64 qx) := hB.out.cell 0
                  have b2 : wn.cell? ⟨bb, 1, none⟩ = some (.int .i64 t) := hB.out.cell 1
                  have blt := hB.out.lt
                  go_wp2_with fail
                  refine (view_calls _ m1 g qx t _ hM.out).mono ?_
                  rw [r1.out]
                  rintro e wa ⟨v, rfl, hu, hq⟩
                  obtain ⟨UA, UC, rfl⟩ := hu.form
                  clear b0 b2 blt
                  (try replace hM := Lib.hid (hM.out.ext hq))
                  (try replace hW := Lib.hid (hW.out.ext hq))
                  (try replace hS := Lib.hid (hS.out.ext hq))
                  (try replace hB := Lib.hid ((Keep.of_ext (X := fun _ => False) hq).blk hB.out id))
                  (try replace hU := Lib.hid (hU.out.ext hq))
                  (try replace hV := Lib.hid (hV.out.ext hq))
                  (try replace hX := Lib.hid (hX.out.ext hq))
                  (try replace hY := Lib.hid (hY.out.ext hq))
                  replace hE := Lib.hid (hE.out.trans hq)
                  clear hq
                  have hU := Lib.hid hu
                  clear hu
                  have b0 : wa.cell? ⟨bb, 0, none⟩ = some (.int .i64 qx) := hB.out.cell 0
                  have b2 : wa.cell? ⟨bb, 1, none⟩ = some (.int .i64 t) := hB.out.cell 1
                  have blt := hB.out.lt
                  go_wp2_with fail
                  refine (rView_calls _ m1 g qx t _ hM.out).mono ?_
                  rw [r1.out]
                  rintro e wb ⟨v, rfl, hu, hq⟩
                  obtain ⟨VA, VC, rfl⟩ := hu.form
                  clear b0 b2 blt
                  (try replace hM := Lib.hid (hM.out.ext hq))
                  (try replace hW := Lib.hid (hW.out.ext hq))
                  (try replace hS := Lib.hid (hS.out.ext hq))
                  (try replace hB := Lib.hid ((Keep.of_ext (X := fun _ => False) hq).blk hB.out id))
                  (try replace hU := Lib.hid (hU.out.ext hq))
                  (try replace hV := Lib.hid (hV.out.ext hq))
                  (try replace hX := Lib.hid (hX.out.ext hq))
                  (try replace hY := Lib.hid (hY.out.ext hq))
                  replace hE := Lib.hid (hE.out.trans hq)
                  clear hq
                  have hV := Lib.hid hu
                  clear hu
                  have b0 : wb.cell? ⟨bb, 0, none⟩ = some (.int .i64 qx) := hB.out.cell 0
                  have b2 : wb.cell? ⟨bb, 1, none⟩ = some (.int .i64 t) := hB.out.cell 1
                  have blt := hB.out.lt
                  go_wp2_with fail
                  refine (view_calls _ raw g qx t _ hW.out).mono ?_
                  rw [r2.out]
                  rintro e wc ⟨v, rfl, hu, hq⟩
                  obtain ⟨XA, XC, rfl⟩ := hu.form
                  clear b0 b2 blt
                  (try replace hM := Lib.hid (hM.out.ext hq))
                  (try replace hW := Lib.hid (hW.out.ext hq))
                  (try replace hS := Lib.hid (hS.out.ext hq))
                  (try replace hB := Lib.hid ((Keep.of_ext (X := fun _ => False) hq).blk hB.out id))
                  (try replace hU := Lib.hid (hU.out.ext hq))
                  (try replace hV := Lib.hid (hV.out.ext hq))
                  (try replace hX := Lib.hid (hX.out.ext hq))
                  (try replace hY := Lib.hid (hY.out.ext hq))
                  replace hE := Lib.hid (hE.out.trans hq)
                  clear hq
                  have hX := Lib.hid hu
                  clear hu
                  have b0 : wc.cell? ⟨bb, 0, none⟩ = some (.int .i64 qx) := hB.out.cell 0
                  have b2 : wc.cell? ⟨bb, 1, none⟩ = some (.int .i64 t) := hB.out.cell 1
                  have blt := hB.out.lt
                  go_wp2_with fail
                  refine (rView_calls _ raw g qx t _ hW.out).mono ?_
                  rw [r2.out]
                  rintro e wd ⟨v, rfl, hu, hq⟩
                  obtain ⟨YA, YC, rfl⟩ := hu.form
                  clear b0 b2 blt
                  (try replace hM := Lib.hid (hM.out.ext hq))
                  (try replace hW := Lib.hid (hW.out.ext hq))
                  (try replace hS := Lib.hid (hS.out.ext hq))
                  (try replace hB := Lib.hid ((Keep.of_ext (X := fun _ => False) hq).blk hB.out id))
                  (try replace hU := Lib.hid (hU.out.ext hq))
                  (try replace hV := Lib.hid (hV.out.ext hq))
                  (try replace hX := Lib.hid (hX.out.ext hq))
                  (try replace hY := Lib.hid (hY.out.ext hq))
                  replace hE := Lib.hid (hE.out.trans hq)
                  clear hq
                  have hY := Lib.hid hu
                  clear hu
                  have hsp2 : Hid (SpansAt (some ⟨b1, o1, none⟩) wd q) := by
                    obtain ⟨_, _, e, _, _, h⟩ := hS.out.open
                    cases e
                    exact Lib.hid h
                  obtain ⟨b3, o3, px, py, e3', hb3, _, ex', g1, g2⟩ := hsp2.out i h4 wd (Ext.refl _)
                  cases e3'
                  obtain ⟨rfl, rfl⟩ : qx = px ∧ qy = py := by
                    have := ex'.out.symm.trans ex.out
                    cases this
                    exact ⟨rfl, rfl⟩
                  clear ex' hsp2
                  go_wp2_with fail
                  refine (cells_calls g qx qy _).mono ?_
                  rw [r4.out]
                  rintro e we ⟨rfl, hq⟩
                  clear g1 g2 hb3
                  (try replace hM := Lib.hid (hM.out.ext hq))
                  (try replace hW := Lib.hid (hW.out.ext hq))
                  (try replace hS := Lib.hid (hS.out.ext hq))
                  (try replace hB := Lib.hid ((Keep.of_ext (X := fun _ => False) hq).blk hB.out id))
                  (try replace hU := Lib.hid (hU.out.ext hq))
                  (try replace hV := Lib.hid (hV.out.ext hq))
                  (try replace hX := Lib.hid (hX.out.ext hq))
                  (try replace hY := Lib.hid (hY.out.ext hq))
                  replace hE := Lib.hid (hE.out.trans hq)
                  clear hq
                  have hsp2 : Hid (SpansAt (some ⟨b1, o1, none⟩) we q) := by
                    obtain ⟨_, _, e, _, _, h⟩ := hS.out.open
                    cases e
                    exact Lib.hid h
                  obtain ⟨b3, o3, px, py, e3', hb3, _, ex', g1, g2⟩ := hsp2.out i h4 we (Ext.refl _)
                  cases e3'
                  obtain ⟨rfl, rfl⟩ : qx = px ∧ qy = py := by
                    have := ex'.out.symm.trans ex.out
                    cases this
                    exact ⟨rfl, rfl⟩
                  clear ex' hsp2
                  go_wp2_with fail
                  refine (rCells_calls g qx qy _).mono ?_
                  rw [r4.out]
                  rintro e wf ⟨rfl, hq⟩
                  clear g1 g2 hb3
                  (try replace hM := Lib.hid (hM.out.ext hq))
                  (try replace hW := Lib.hid (hW.out.ext hq))
                  (try replace hS := Lib.hid (hS.out.ext hq))
                  (try replace hB := Lib.hid ((Keep.of_ext (X := fun _ => False) hq).blk hB.out id))
                  (try replace hU := Lib.hid (hU.out.ext hq))
                  (try replace hV := Lib.hid (hV.out.ext hq))
                  (try replace hX := Lib.hid (hX.out.ext hq))
                  (try replace hY := Lib.hid (hY.out.ext hq))
                  replace hE := Lib.hid (hE.out.trans hq)
                  clear hq
                  have b0 : wf.cell? ⟨bb, 0, none⟩ = some (.int .i64 qx) := hB.out.cell 0
                  have b2 : wf.cell? ⟨bb, 1, none⟩ = some (.int .i64 t) := hB.out.cell 1
                  have blt := hB.out.lt
                  go_wp2_with fail
                  refine (same_calls _ _ m1 raw g qx t _ hM.out hW.out).mono ?_
                  rw [r3.out]
                  rintro e wg ⟨rfl, hq⟩
                  clear b0 b2 blt
                  (try replace hM := Lib.hid (hM.out.ext hq))
                  (try replace hW := Lib.hid (hW.out.ext hq))
                  (try replace hS := Lib.hid (hS.out.ext hq))
                  (try replace hB := Lib.hid ((Keep.of_ext (X := fun _ => False) hq).blk hB.out id))
                  (try replace hU := Lib.hid (hU.out.ext hq))
                  (try replace hV := Lib.hid (hV.out.ext hq))
                  (try replace hX := Lib.hid (hX.out.ext hq))
                  (try replace hY := Lib.hid (hY.out.ext hq))
                  replace hE := Lib.hid (hE.out.trans hq)
                  clear hq
                  have b0 : wg.cell? ⟨bb, 0, none⟩ = some (.int .i64 qx) := hB.out.cell 0
                  have b2 : wg.cell? ⟨bb, 1, none⟩ = some (.int .i64 t) := hB.out.cell 1
                  have blt := hB.out.lt
                  go_wp2_with fail
                  refine (rSame_calls _ _ m1 raw g qx t _ hM.out hW.out).mono ?_
                  rw [r3.out]
                  rintro e wh ⟨rfl, hq⟩
                  clear b0 b2 blt
                  (try replace hM := Lib.hid (hM.out.ext hq))
                  (try replace hW := Lib.hid (hW.out.ext hq))
                  (try replace hS := Lib.hid (hS.out.ext hq))
                  (try replace hB := Lib.hid ((Keep.of_ext (X := fun _ => False) hq).blk hB.out id))
                  (try replace hU := Lib.hid (hU.out.ext hq))
                  (try replace hV := Lib.hid (hV.out.ext hq))
                  (try replace hX := Lib.hid (hX.out.ext hq))
                  (try replace hY := Lib.hid (hY.out.ext hq))
                  replace hE := Lib.hid (hE.out.trans hq)
                  clear hq
                  clear r1 r2 r3 r4 hB
                  go_wp2_with fail
                  refine (rNumbers_calls _ _ x1 x1 _ hU.out hV.out).mono ?_
                  rw [decide_eq_true rfl]
                  rintro e wi ⟨rfl, hq⟩
                  (try replace hM := Lib.hid (hM.out.ext hq))
                  (try replace hW := Lib.hid (hW.out.ext hq))
                  (try replace hS := Lib.hid (hS.out.ext hq))
                  (try replace hB := Lib.hid ((Keep.of_ext (X := fun _ => False) hq).blk hB.out id))
                  (try replace hU := Lib.hid (hU.out.ext hq))
                  (try replace hV := Lib.hid (hV.out.ext hq))
                  (try replace hX := Lib.hid (hX.out.ext hq))
                  (try replace hY := Lib.hid (hY.out.ext hq))
                  replace hE := Lib.hid (hE.out.trans hq)
                  clear hq
                  clear hU hV
                  go_wp2_with fail
                  refine (rNumbers_calls _ _ x2 x2 _ hX.out hY.out).mono ?_
                  rw [decide_eq_true rfl]
                  rintro e wj ⟨rfl, hq⟩
                  (try replace hM := Lib.hid (hM.out.ext hq))
                  (try replace hW := Lib.hid (hW.out.ext hq))
                  (try replace hS := Lib.hid (hS.out.ext hq))
                  (try replace hB := Lib.hid ((Keep.of_ext (X := fun _ => False) hq).blk hB.out id))
                  (try replace hU := Lib.hid (hU.out.ext hq))
                  (try replace hV := Lib.hid (hV.out.ext hq))
                  (try replace hX := Lib.hid (hX.out.ext hq))
                  (try replace hY := Lib.hid (hY.out.ext hq))
                  replace hE := Lib.hid (hE.out.trans hq)
                  clear hq
                  clear hX hY
                  go_wp2
                  go_roundw
                  case rel => first | exact ⟨i + 1, by omega, by omega, by go_num, hM, hW, hS, hE⟩ | ((repeat apply Exists.intro); exact ⟨⟨i + 1, by omega, by omega, by go_num, hM, hW, hS, hE⟩, rfl⟩)
                  case measure => simp [intOf]; omega
                · have c3' : decide (qy ≤ 2251799813685248) = false := decide_eq_false c3
                  clear c1 c2 c3
                  go_upto_region 14 with (fail)
                  clear k0 k1 kl hdd
                  (try clear c2')
                  (try clear c3')
                  clear c1'
                  have hq := hxp.out
                  clear hxp
                  replace hM := Lib.hid (hM.out.ext hq)
                  replace hW := Lib.hid (hW.out.ext hq)
                  replace hS := Lib.hid (hS.out.ext hq)
                  replace hE := Lib.hid (hE.out.trans hq)
                  clear hq
                  obtain ⟨x1, e1, r1⟩ : ∃ x e, Hid (viewG m1 g qx qy = (x, e)) := ⟨_, _, rfl⟩
                  obtain ⟨x2, e2, r2⟩ : ∃ x e, Hid (viewG raw g qx qy = (x, e)) := ⟨_, _, rfl⟩
                  obtain ⟨s1, e3, r3⟩ : ∃ x e, Hid (sameG m1 raw g qx qy = (x, e)) := ⟨_, _, rfl⟩
                  obtain ⟨n1, e4, r4⟩ : ∃ x e, Hid (cellsG g qx qy = (x, e)) := ⟨_, _, rfl⟩
                  have b0 : wp.cell? ⟨bb, 0, none⟩ = some (.int .i64 qx) := hB.out.cell 0
                  have b2 : wp.cell? ⟨bb, 1, none⟩ = some (.int .i64 qy) := hB.out.cell 1
                  have blt := hB.out.lt
                  go_wp2_with fail
                  refine (view_calls _ m1 g qx qy _ hM.out).mono ?_
                  rw [r1.out]
                  rintro e wa ⟨v, rfl, hu, hq⟩
                  obtain ⟨UA, UC, rfl⟩ := hu.form
                  clear b0 b2 blt
                  (try replace hM := Lib.hid (hM.out.ext hq))
                  (try replace hW := Lib.hid (hW.out.ext hq))
                  (try replace hS := Lib.hid (hS.out.ext hq))
                  (try replace hB := Lib.hid ((Keep.of_ext (X := fun _ => False) hq).blk hB.out id))
                  (try replace hU := Lib.hid (hU.out.ext hq))
                  (try replace hV := Lib.hid (hV.out.ext hq))
                  (try replace hX := Lib.hid (hX.out.ext hq))
                  (try replace hY := Lib.hid (hY.out.ext hq))
                  replace hE := Lib.hid (hE.out.trans hq)
                  clear hq
                  have hU := Lib.hid hu
                  clear hu
                  have b0 : wa.cell? ⟨bb, 0, none⟩ = some (.int .i64 qx) := hB.out.cell 0
                  have b2 : wa.cell? ⟨bb, 1, none⟩ = some (.int .i64 qy) := hB.out.cell 1
                  have blt := hB.out.lt
                  go_wp2_with fail
                  refine (rView_calls _ m1 g qx qy _ hM.out).mono ?_
                  rw [r1.out]
                  rintro e wb ⟨v, rfl, hu, hq⟩
                  obtain ⟨VA, VC, rfl⟩ := hu.form
                  clear b0 b2 blt
                  (try replace hM := Lib.hid (hM.out.ext hq))
                  (try replace hW := Lib.hid (hW.out.ext hq))
                  (try replace hS := Lib.hid (hS.out.ext hq))
                  (try replace hB := Lib.hid ((Keep.of_ext (X := fun _ => False) hq).blk hB.out id))
                  (try replace hU := Lib.hid (hU.out.ext hq))
                  (try replace hV := Lib.hid (hV.out.ext hq))
                  (try replace hX := Lib.hid (hX.out.ext hq))
                  (try replace hY := Lib.hid (hY.out.ext hq))
                  replace hE := Lib.hid (hE.out.trans hq)
                  clear hq
                  have hV := Lib.hid hu
                  clear hu
                  have b0 : wb.cell? ⟨bb, 0, none⟩ = some (.int .i64 qx) := hB.out.cell 0
                  have b2 : wb.cell? ⟨bb, 1, none⟩ = some (.int .i64 qy) := hB.out.cell 1
                  have blt := hB.out.lt
                  go_wp2_with fail
                  refine (view_calls _ raw g qx qy _ hW.out).mono ?_
                  rw [r2.out]
                  rintro e wc ⟨v, rfl, hu, hq⟩
                  obtain ⟨XA, XC, rfl⟩ := hu.form
                  clear b0 b2 blt
                  (try replace hM := Lib.hid (hM.out.ext hq))
                  (try replace hW := Lib.hid (hW.out.ext hq))
                  (try replace hS := Lib.hid (hS.out.ext hq))
                  (try replace hB := Lib.hid ((Keep.of_ext (X := fun _ => False) hq).blk hB.out id))
                  (try replace hU := Lib.hid (hU.out.ext hq))
                  (try replace hV := Lib.hid (hV.out.ext hq))
                  (try replace hX := Lib.hid (hX.out.ext hq))
                  (try replace hY := Lib.hid (hY.out.ext hq))
                  replace hE := Lib.hid (hE.out.trans hq)
                  clear hq
                  have hX := Lib.hid hu
                  clear hu
                  have b0 : wc.cell? ⟨bb, 0, none⟩ = some (.int .i64 qx) := hB.out.cell 0
                  have b2 : wc.cell? ⟨bb, 1, none⟩ = some (.int .i64 qy) := hB.out.cell 1
                  have blt := hB.out.lt
                  go_wp2_with fail
                  refine (rView_calls _ raw g qx qy _ hW.out).mono ?_
                  rw [r2.out]
                  rintro e wd ⟨v, rfl, hu, hq⟩
                  obtain ⟨YA, YC, rfl⟩ := hu.form
                  clear b0 b2 blt
                  (try replace hM := Lib.hid (hM.out.ext hq))
                  (try replace hW := Lib.hid (hW.out.ext hq))
                  (try replace hS := Lib.hid (hS.out.ext hq))
                  (try replace hB := Lib.hid ((Keep.of_ext (X := fun _ => False) hq).blk hB.out id))
                  (try replace hU := Lib.hid (hU.out.ext hq))
                  (try replace hV := Lib.hid (hV.out.ext hq))
                  (try replace hX := Lib.hid (hX.out.ext hq))
                  (try replace hY := Lib.hid (hY.out.ext hq))
                  replace hE := Lib.hid (hE.out.trans hq)
                  clear hq
                  have hY := Lib.hid hu
                  clear hu
                  have hsp2 : Hid (SpansAt (some ⟨b1, o1, none⟩) wd q) := by
                    obtain ⟨_, _, e, _, _, h⟩ := hS.out.open
                    cases e
                    exact Lib.hid h
                  obtain ⟨b3, o3, px, py, e3', hb3, _, ex', g1, g2⟩ := hsp2.out i h4 wd (Ext.refl _)
                  cases e3'
                  obtain ⟨rfl, rfl⟩ : qx = px ∧ qy = py := by
                    have := ex'.out.symm.trans ex.out
                    cases this
                    exact ⟨rfl, rfl⟩
                  clear ex' hsp2
                  go_wp2_with fail
                  refine (cells_calls g qx qy _).mono ?_
                  rw [r4.out]
                  rintro e we ⟨rfl, hq⟩
                  clear g1 g2 hb3
                  (try replace hM := Lib.hid (hM.out.ext hq))
                  (try replace hW := Lib.hid (hW.out.ext hq))
                  (try replace hS := Lib.hid (hS.out.ext hq))
                  (try replace hB := Lib.hid ((Keep.of_ext (X := fun _ => False) hq).blk hB.out id))
                  (try replace hU := Lib.hid (hU.out.ext hq))
                  (try replace hV := Lib.hid (hV.out.ext hq))
                  (try replace hX := Lib.hid (hX.out.ext hq))
                  (try replace hY := Lib.hid (hY.out.ext hq))
                  replace hE := Lib.hid (hE.out.trans hq)
                  clear hq
                  have hsp2 : Hid (SpansAt (some ⟨b1, o1, none⟩) we q) := by
                    obtain ⟨_, _, e, _, _, h⟩ := hS.out.open
                    cases e
                    exact Lib.hid h
                  obtain ⟨b3, o3, px, py, e3', hb3, _, ex', g1, g2⟩ := hsp2.out i h4 we (Ext.refl _)
                  cases e3'
                  obtain ⟨rfl, rfl⟩ : qx = px ∧ qy = py := by
                    have := ex'.out.symm.trans ex.out
                    cases this
                    exact ⟨rfl, rfl⟩
                  clear ex' hsp2
                  go_wp2_with fail
                  refine (rCells_calls g qx qy _).mono ?_
                  rw [r4.out]
                  rintro e wf ⟨rfl, hq⟩
                  clear g1 g2 hb3
                  (try replace hM := Lib.hid (hM.out.ext hq))
                  (try replace hW := Lib.hid (hW.out.ext hq))
                  (try replace hS := Lib.hid (hS.out.ext hq))
                  (try replace hB := Lib.hid ((Keep.of_ext (X := fun _ => False) hq).blk hB.out id))
                  (try replace hU := Lib.hid (hU.out.ext hq))
                  (try replace hV := Lib.hid (hV.out.ext hq))
                  (try replace hX := Lib.hid (hX.out.ext hq))
                  (try replace hY := Lib.hid (hY.out.ext hq))
                  replace hE := Lib.hid (hE.out.trans hq)
                  clear hq
                  have b0 : wf.cell? ⟨bb, 0, none⟩ = some (.int .i64 qx) := hB.out.cell 0
                  have b2 : wf.cell? ⟨bb, 1, none⟩ = some (.int .i64 qy) := hB.out.cell 1
                  have blt := hB.out.lt
                  go_wp2_with fail
                  refine (same_calls _ _ m1 raw g qx qy _ hM.out hW.out).mono ?_
                  rw [r3.out]
                  rintro e wg ⟨rfl, hq⟩
                  clear b0 b2 blt
                  (try replace hM := Lib.hid (hM.out.ext hq))
                  (try replace hW := Lib.hid (hW.out.ext hq))
                  (try replace hS := Lib.hid (hS.out.ext hq))
                  (try replace hB := Lib.hid ((Keep.of_ext (X := fun _ => False) hq).blk hB.out id))
                  (try replace hU := Lib.hid (hU.out.ext hq))
                  (try replace hV := Lib.hid (hV.out.ext hq))
                  (try replace hX := Lib.hid (hX.out.ext hq))
                  (try replace hY := Lib.hid (hY.out.ext hq))
                  replace hE := Lib.hid (hE.out.trans hq)
                  clear hq
                  have b0 : wg.cell? ⟨bb, 0, none⟩ = some (.int .i64 qx) := hB.out.cell 0
                  have b2 : wg.cell? ⟨bb, 1, none⟩ = some (.int .i64 qy) := hB.out.cell 1
                  have blt := hB.out.lt
                  go_wp2_with fail
                  refine (rSame_calls _ _ m1 raw g qx qy _ hM.out hW.out).mono ?_
                  rw [r3.out]
                  rintro e wh ⟨rfl, hq⟩
                  clear b0 b2 blt
                  (try replace hM := Lib.hid (hM.out.ext hq))
                  (try replace hW := Lib.hid (hW.out.ext hq))
                  (try replace hS := Lib.hid (hS.out.ext hq))
                  (try replace hB := Lib.hid ((Keep.of_ext (X := fun _ => False) hq).blk hB.out id))
                  (try replace hU := Lib.hid (hU.out.ext hq))
                  (try replace hV := Lib.hid (hV.out.ext hq))
                  (try replace hX := Lib.hid (hX.out.ext hq))
                  (try replace hY := Lib.hid (hY.out.ext hq))
                  replace hE := Lib.hid (hE.out.trans hq)
                  clear hq
                  clear r1 r2 r3 r4 hB
                  go_wp2_with fail
                  refine (rNumbers_calls _ _ x1 x1 _ hU.out hV.out).mono ?_
                  rw [decide_eq_true rfl]
                  rintro e wi ⟨rfl, hq⟩
                  (try replace hM := Lib.hid (hM.out.ext hq))
                  (try replace hW := Lib.hid (hW.out.ext hq))
                  (try replace hS := Lib.hid (hS.out.ext hq))
                  (try replace hB := Lib.hid ((Keep.of_ext (X := fun _ => False) hq).blk hB.out id))
                  (try replace hU := Lib.hid (hU.out.ext hq))
                  (try replace hV := Lib.hid (hV.out.ext hq))
                  (try replace hX := Lib.hid (hX.out.ext hq))
                  (try replace hY := Lib.hid (hY.out.ext hq))
                  replace hE := Lib.hid (hE.out.trans hq)
                  clear hq
                  clear hU hV
                  go_wp2_with fail
                  refine (rNumbers_calls _ _ x2 x2 _ hX.out hY.out).mono ?_
                  rw [decide_eq_true rfl]
                  rintro e wj ⟨rfl, hq⟩
                  (try replace hM := Lib.hid (hM.out.ext hq))
                  (try replace hW := Lib.hid (hW.out.ext hq))
                  (try replace hS := Lib.hid (hS.out.ext hq))
                  (try replace hB := Lib.hid ((Keep.of_ext (X := fun _ => False) hq).blk hB.out id))
                  (try replace hU := Lib.hid (hU.out.ext hq))
                  (try replace hV := Lib.hid (hV.out.ext hq))
                  (try replace hX := Lib.hid (hX.out.ext hq))
                  (try replace hY := Lib.hid (hY.out.ext hq))
                  replace hE := Lib.hid (hE.out.trans hq)
                  clear hq
                  clear hX hY
                  go_wp2
                  go_roundw
                  case rel => first | exact ⟨i + 1, by omega, by omega, by go_num, hM, hW, hS, hE⟩ | ((repeat apply Exists.intro); exact ⟨⟨i + 1, by omega, by omega, by go_num, hM, hW, hS, hE⟩, rfl⟩)
                  case measure => simp [intOf]; omega
              · have c2' : decide (qx ≤ qy) = false := decide_eq_false c2
                clear c1 c2
                go_upto_region 14 with (fail)
                clear k0 k1 kl hdd
                (try clear c2')
                (try clear c3')
                clear c1'
                have hq := hxp.out
                clear hxp
                replace hM := Lib.hid (hM.out.ext hq)
                replace hW := Lib.hid (hW.out.ext hq)
                replace hS := Lib.hid (hS.out.ext hq)
                replace hE := Lib.hid (hE.out.trans hq)
                clear hq
                obtain ⟨x1, e1, r1⟩ : ∃ x e, Hid (viewG m1 g qx qy = (x, e)) := ⟨_, _, rfl⟩
                obtain ⟨x2, e2, r2⟩ : ∃ x e, Hid (viewG raw g qx qy = (x, e)) := ⟨_, _, rfl⟩
                obtain ⟨s1, e3, r3⟩ : ∃ x e, Hid (sameG m1 raw g qx qy = (x, e)) := ⟨_, _, rfl⟩
                obtain ⟨n1, e4, r4⟩ : ∃ x e, Hid (cellsG g qx qy = (x, e)) := ⟨_, _, rfl⟩
                have b0 : wp.cell? ⟨bb, 0, none⟩ = some (.int .i64 qx) := hB.out.cell 0
                have b2 : wp.cell? ⟨bb, 1, none⟩ = some (.int .i64 qy) := hB.out.cell 1
                have blt := hB.out.lt
                go_wp2_with fail
                refine (view_calls _ m1 g qx qy _ hM.out).mono ?_
                rw [r1.out]
                rintro e wa ⟨v, rfl, hu, hq⟩
                obtain ⟨UA, UC, rfl⟩ := hu.form
                clear b0 b2 blt
                (try replace hM := Lib.hid (hM.out.ext hq))
                (try replace hW := Lib.hid (hW.out.ext hq))
                (try replace hS := Lib.hid (hS.out.ext hq))
                (try replace hB := Lib.hid ((Keep.of_ext (X := fun _ => False) hq).blk hB.out id))
                (try replace hU := Lib.hid (hU.out.ext hq))
                (try replace hV := Lib.hid (hV.out.ext hq))
                (try replace hX := Lib.hid (hX.out.ext hq))
                (try replace hY := Lib.hid (hY.out.ext hq))
                replace hE := Lib.hid (hE.out.trans hq)
                clear hq
                have hU := Lib.hid hu
                clear hu
                have b0 : wa.cell? ⟨bb, 0, none⟩ = some (.int .i64 qx) := hB.out.cell 0
                have b2 : wa.cell? ⟨bb, 1, none⟩ = some (.int .i64 qy) := hB.out.cell 1
                have blt := hB.out.lt
                go_wp2_with fail
                refine (rView_calls _ m1 g qx qy _ hM.out).mono ?_
                rw [r1.out]
                rintro e wb ⟨v, rfl, hu, hq⟩
                obtain ⟨VA, VC, rfl⟩ := hu.form
                clear b0 b2 blt
                (try replace hM := Lib.hid (hM.out.ext hq))
                (try replace hW := Lib.hid (hW.out.ext hq))
                (try replace hS := Lib.hid (hS.out.ext hq))
                (try replace hB := Lib.hid ((Keep.of_ext (X := fun _ => False) hq).blk hB.out id))
                (try replace hU := Lib.hid (hU.out.ext hq))
                (try replace hV := Lib.hid (hV.out.ext hq))
                (try replace hX := Lib.hid (hX.out.ext hq))
                (try replace hY := Lib.hid (hY.out.ext hq))
                replace hE := Lib.hid (hE.out.trans hq)
                clear hq
                have hV := Lib.hid hu
                clear hu
                have b0 : wb.cell? ⟨bb, 0, none⟩ = some (.int .i64 qx) := hB.out.cell 0
                have b2 : wb.cell? ⟨bb, 1, none⟩ = some (.int .i64 qy) := hB.out.cell 1
                have blt := hB.out.lt
                go_wp2_with fail
                refine (view_calls _ raw g qx qy _ hW.out).mono ?_
                rw [r2.out]
                rintro e wc ⟨v, rfl, hu, hq⟩
                obtain ⟨XA, XC, rfl⟩ := hu.form
                clear b0 b2 blt
                (try replace hM := Lib.hid (hM.out.ext hq))
                (try replace hW := Lib.hid (hW.out.ext hq))
                (try replace hS := Lib.hid (hS.out.ext hq))
                (try replace hB := Lib.hid ((Keep.of_ext (X := fun _ => False) hq).blk hB.out id))
                (try replace hU := Lib.hid (hU.out.ext hq))
                (try replace hV := Lib.hid (hV.out.ext hq))
                (try replace hX := Lib.hid (hX.out.ext hq))
                (try replace hY := Lib.hid (hY.out.ext hq))
                replace hE := Lib.hid (hE.out.trans hq)
                clear hq
                have hX := Lib.hid hu
                clear hu
                have b0 : wc.cell? ⟨bb, 0, none⟩ = some (.int .i64 qx) := hB.out.cell 0
                have b2 : wc.cell? ⟨bb, 1, none⟩ = some (.int .i64 qy) := hB.out.cell 1
                have blt := hB.out.lt
                go_wp2_with fail
                refine (rView_calls _ raw g qx qy _ hW.out).mono ?_
                rw [r2.out]
                rintro e wd ⟨v, rfl, hu, hq⟩
                obtain ⟨YA, YC, rfl⟩ := hu.form
                clear b0 b2 blt
                (try replace hM := Lib.hid (hM.out.ext hq))
                (try replace hW := Lib.hid (hW.out.ext hq))
                (try replace hS := Lib.hid (hS.out.ext hq))
                (try replace hB := Lib.hid ((Keep.of_ext (X := fun _ => False) hq).blk hB.out id))
                (try replace hU := Lib.hid (hU.out.ext hq))
                (try replace hV := Lib.hid (hV.out.ext hq))
                (try replace hX := Lib.hid (hX.out.ext hq))
                (try replace hY := Lib.hid (hY.out.ext hq))
                replace hE := Lib.hid (hE.out.trans hq)
                clear hq
                have hY := Lib.hid hu
                clear hu
                have hsp2 : Hid (SpansAt (some ⟨b1, o1, none⟩) wd q) := by
                  obtain ⟨_, _, e, _, _, h⟩ := hS.out.open
                  cases e
                  exact Lib.hid h
                obtain ⟨b3, o3, px, py, e3', hb3, _, ex', g1, g2⟩ := hsp2.out i h4 wd (Ext.refl _)
                cases e3'
                obtain ⟨rfl, rfl⟩ : qx = px ∧ qy = py := by
                  have := ex'.out.symm.trans ex.out
                  cases this
                  exact ⟨rfl, rfl⟩
                clear ex' hsp2
                go_wp2_with fail
                refine (cells_calls g qx qy _).mono ?_
                rw [r4.out]
                rintro e we ⟨rfl, hq⟩
                clear g1 g2 hb3
                (try replace hM := Lib.hid (hM.out.ext hq))
                (try replace hW := Lib.hid (hW.out.ext hq))
                (try replace hS := Lib.hid (hS.out.ext hq))
                (try replace hB := Lib.hid ((Keep.of_ext (X := fun _ => False) hq).blk hB.out id))
                (try replace hU := Lib.hid (hU.out.ext hq))
                (try replace hV := Lib.hid (hV.out.ext hq))
                (try replace hX := Lib.hid (hX.out.ext hq))
                (try replace hY := Lib.hid (hY.out.ext hq))
                replace hE := Lib.hid (hE.out.trans hq)
                clear hq
                have hsp2 : Hid (SpansAt (some ⟨b1, o1, none⟩) we q) := by
                  obtain ⟨_, _, e, _, _, h⟩ := hS.out.open
                  cases e
                  exact Lib.hid h
                obtain ⟨b3, o3, px, py, e3', hb3, _, ex', g1, g2⟩ := hsp2.out i h4 we (Ext.refl _)
                cases e3'
                obtain ⟨rfl, rfl⟩ : qx = px ∧ qy = py := by
                  have := ex'.out.symm.trans ex.out
                  cases this
                  exact ⟨rfl, rfl⟩
                clear ex' hsp2
                go_wp2_with fail
                refine (rCells_calls g qx qy _).mono ?_
                rw [r4.out]
                rintro e wf ⟨rfl, hq⟩
                clear g1 g2 hb3
                (try replace hM := Lib.hid (hM.out.ext hq))
                (try replace hW := Lib.hid (hW.out.ext hq))
                (try replace hS := Lib.hid (hS.out.ext hq))
                (try replace hB := Lib.hid ((Keep.of_ext (X := fun _ => False) hq).blk hB.out id))
                (try replace hU := Lib.hid (hU.out.ext hq))
                (try replace hV := Lib.hid (hV.out.ext hq))
                (try replace hX := Lib.hid (hX.out.ext hq))
                (try replace hY := Lib.hid (hY.out.ext hq))
                replace hE := Lib.hid (hE.out.trans hq)
                clear hq
                have b0 : wf.cell? ⟨bb, 0, none⟩ = some (.int .i64 qx) := hB.out.cell 0
                have b2 : wf.cell? ⟨bb, 1, none⟩ = some (.int .i64 qy) := hB.out.cell 1
                have blt := hB.out.lt
                go_wp2_with fail
                refine (same_calls _ _ m1 raw g qx qy _ hM.out hW.out).mono ?_
                rw [r3.out]
                rintro e wg ⟨rfl, hq⟩
                clear b0 b2 blt
                (try replace hM := Lib.hid (hM.out.ext hq))
                (try replace hW := Lib.hid (hW.out.ext hq))
                (try replace hS := Lib.hid (hS.out.ext hq))
                (try replace hB := Lib.hid ((Keep.of_ext (X := fun _ => False) hq).blk hB.out id))
                (try replace hU := Lib.hid (hU.out.ext hq))
                (try replace hV := Lib.hid (hV.out.ext hq))
                (try replace hX := Lib.hid (hX.out.ext hq))
                (try replace hY := Lib.hid (hY.out.ext hq))
                replace hE := Lib.hid (hE.out.trans hq)
                clear hq
                have b0 : wg.cell? ⟨bb, 0, none⟩ = some (.int .i64 qx) := hB.out.cell 0
                have b2 : wg.cell? ⟨bb, 1, none⟩ = some (.int .i64 qy) := hB.out.cell 1
                have blt := hB.out.lt
                go_wp2_with fail
                refine (rSame_calls _ _ m1 raw g qx qy _ hM.out hW.out).mono ?_
                rw [r3.out]
                rintro e wh ⟨rfl, hq⟩
                clear b0 b2 blt
                (try replace hM := Lib.hid (hM.out.ext hq))
                (try replace hW := Lib.hid (hW.out.ext hq))
                (try replace hS := Lib.hid (hS.out.ext hq))
                (try replace hB := Lib.hid ((Keep.of_ext (X := fun _ => False) hq).blk hB.out id))
                (try replace hU := Lib.hid (hU.out.ext hq))
                (try replace hV := Lib.hid (hV.out.ext hq))
                (try replace hX := Lib.hid (hX.out.ext hq))
                (try replace hY := Lib.hid (hY.out.ext hq))
                replace hE := Lib.hid (hE.out.trans hq)
                clear hq
                clear r1 r2 r3 r4 hB
                go_wp2_with fail
                refine (rNumbers_calls _ _ x1 x1 _ hU.out hV.out).mono ?_
                rw [decide_eq_true rfl]
                rintro e wi ⟨rfl, hq⟩
                (try replace hM := Lib.hid (hM.out.ext hq))
                (try replace hW := Lib.hid (hW.out.ext hq))
                (try replace hS := Lib.hid (hS.out.ext hq))
                (try replace hB := Lib.hid ((Keep.of_ext (X := fun _ => False) hq).blk hB.out id))
                (try replace hU := Lib.hid (hU.out.ext hq))
                (try replace hV := Lib.hid (hV.out.ext hq))
                (try replace hX := Lib.hid (hX.out.ext hq))
                (try replace hY := Lib.hid (hY.out.ext hq))
                replace hE := Lib.hid (hE.out.trans hq)
                clear hq
                clear hU hV
                go_wp2_with fail
                refine (rNumbers_calls _ _ x2 x2 _ hX.out hY.out).mono ?_
                rw [decide_eq_true rfl]
                rintro e wj ⟨rfl, hq⟩
                (try replace hM := Lib.hid (hM.out.ext hq))
                (try replace hW := Lib.hid (hW.out.ext hq))
                (try replace hS := Lib.hid (hS.out.ext hq))
                (try replace hB := Lib.hid ((Keep.of_ext (X := fun _ => False) hq).blk hB.out id))
                (try replace hU := Lib.hid (hU.out.ext hq))
                (try replace hV := Lib.hid (hV.out.ext hq))
                (try replace hX := Lib.hid (hX.out.ext hq))
                (try replace hY := Lib.hid (hY.out.ext hq))
                replace hE := Lib.hid (hE.out.trans hq)
                clear hq
                clear hX hY
                go_wp2
                go_roundw
                case rel => first | exact ⟨i + 1, by omega, by omega, by go_num, hM, hW, hS, hE⟩ | ((repeat apply Exists.intro); exact ⟨⟨i + 1, by omega, by omega, by go_num, hM, hW, hS, hE⟩, rfl⟩)
                case measure => simp [intOf]; omega
            · have c1' : decide (3000 < dd) = false := decide_eq_false c1
              clear c1
              go_upto_region 14 with (fail)
              clear k0 k1 kl hdd
              (try clear c2')
              (try clear c3')
              clear c1'
              have hq := hxp.out
              clear hxp
              replace hM := Lib.hid (hM.out.ext hq)
              replace hW := Lib.hid (hW.out.ext hq)
              replace hS := Lib.hid (hS.out.ext hq)
              replace hE := Lib.hid (hE.out.trans hq)
              clear hq
              obtain ⟨x1, e1, r1⟩ : ∃ x e, Hid (viewG m1 g qx qy = (x, e)) := ⟨_, _, rfl⟩
              obtain ⟨x2, e2, r2⟩ : ∃ x e, Hid (viewG raw g qx qy = (x, e)) := ⟨_, _, rfl⟩
              obtain ⟨s1, e3, r3⟩ : ∃ x e, Hid (sameG m1 raw g qx qy = (x, e)) := ⟨_, _, rfl⟩
              obtain ⟨n1, e4, r4⟩ : ∃ x e, Hid (cellsG g qx qy = (x, e)) := ⟨_, _, rfl⟩
              have b0 : wp.cell? ⟨bb, 0, none⟩ = some (.int .i64 qx) := hB.out.cell 0
              have b2 : wp.cell? ⟨bb, 1, none⟩ = some (.int .i64 qy) := hB.out.cell 1
              have blt := hB.out.lt
              go_wp2_with fail
              refine (view_calls _ m1 g qx qy _ hM.out).mono ?_
              rw [r1.out]
              rintro e wa ⟨v, rfl, hu, hq⟩
              obtain ⟨UA, UC, rfl⟩ := hu.form
              clear b0 b2 blt
              (try replace hM := Lib.hid (hM.out.ext hq))
              (try replace hW := Lib.hid (hW.out.ext hq))
              (try replace hS := Lib.hid (hS.out.ext hq))
              (try replace hB := Lib.hid ((Keep.of_ext (X := fun _ => False) hq).blk hB.out id))
              (try replace hU := Lib.hid (hU.out.ext hq))
              (try replace hV := Lib.hid (hV.out.ext hq))
              (try replace hX := Lib.hid (hX.out.ext hq))
              (try replace hY := Lib.hid (hY.out.ext hq))
              replace hE := Lib.hid (hE.out.trans hq)
              clear hq
              have hU := Lib.hid hu
              clear hu
              have b0 : wa.cell? ⟨bb, 0, none⟩ = some (.int .i64 qx) := hB.out.cell 0
              have b2 : wa.cell? ⟨bb, 1, none⟩ = some (.int .i64 qy) := hB.out.cell 1
              have blt := hB.out.lt
              go_wp2_with fail
              refine (rView_calls _ m1 g qx qy _ hM.out).mono ?_
              rw [r1.out]
              rintro e wb ⟨v, rfl, hu, hq⟩
              obtain ⟨VA, VC, rfl⟩ := hu.form
              clear b0 b2 blt
              (try replace hM := Lib.hid (hM.out.ext hq))
              (try replace hW := Lib.hid (hW.out.ext hq))
              (try replace hS := Lib.hid (hS.out.ext hq))
              (try replace hB := Lib.hid ((Keep.of_ext (X := fun _ => False) hq).blk hB.out id))
              (try replace hU := Lib.hid (hU.out.ext hq))
              (try replace hV := Lib.hid (hV.out.ext hq))
              (try replace hX := Lib.hid (hX.out.ext hq))
              (try replace hY := Lib.hid (hY.out.ext hq))
              replace hE := Lib.hid (hE.out.trans hq)
              clear hq
              have hV := Lib.hid hu
              clear hu
              have b0 : wb.cell? ⟨bb, 0, none⟩ = some (.int .i64 qx) := hB.out.cell 0
              have b2 : wb.cell? ⟨bb, 1, none⟩ = some (.int .i64 qy) := hB.out.cell 1
              have blt := hB.out.lt
              go_wp2_with fail
              refine (view_calls _ raw g qx qy _ hW.out).mono ?_
              rw [r2.out]
              rintro e wc ⟨v, rfl, hu, hq⟩
              obtain ⟨XA, XC, rfl⟩ := hu.form
              clear b0 b2 blt
              (try replace hM := Lib.hid (hM.out.ext hq))
              (try replace hW := Lib.hid (hW.out.ext hq))
              (try replace hS := Lib.hid (hS.out.ext hq))
              (try replace hB := Lib.hid ((Keep.of_ext (X := fun _ => False) hq).blk hB.out id))
              (try replace hU := Lib.hid (hU.out.ext hq))
              (try replace hV := Lib.hid (hV.out.ext hq))
              (try replace hX := Lib.hid (hX.out.ext hq))
              (try replace hY := Lib.hid (hY.out.ext hq))
              replace hE := Lib.hid (hE.out.trans hq)
              clear hq
              have hX := Lib.hid hu
              clear hu
              have b0 : wc.cell? ⟨bb, 0, none⟩ = some (.int .i64 qx) := hB.out.cell 0
              have b2 : wc.cell? ⟨bb, 1, none⟩ = some (.int .i64 qy) := hB.out.cell 1
              have blt := hB.out.lt
              go_wp2_with fail
              refine (rView_calls _ raw g qx qy _ hW.out).mono ?_
              rw [r2.out]
              rintro e wd ⟨v, rfl, hu, hq⟩
              obtain ⟨YA, YC, rfl⟩ := hu.form
              clear b0 b2 blt
              (try replace hM := Lib.hid (hM.out.ext hq))
              (try replace hW := Lib.hid (hW.out.ext hq))
              (try replace hS := Lib.hid (hS.out.ext hq))
              (try replace hB := Lib.hid ((Keep.of_ext (X := fun _ => False) hq).blk hB.out id))
              (try replace hU := Lib.hid (hU.out.ext hq))
              (try replace hV := Lib.hid (hV.out.ext hq))
              (try replace hX := Lib.hid (hX.out.ext hq))
              (try replace hY := Lib.hid (hY.out.ext hq))
              replace hE := Lib.hid (hE.out.trans hq)
              clear hq
              have hY := Lib.hid hu
              clear hu
              have hsp2 : Hid (SpansAt (some ⟨b1, o1, none⟩) wd q) := by
                obtain ⟨_, _, e, _, _, h⟩ := hS.out.open
                cases e
                exact Lib.hid h
              obtain ⟨b3, o3, px, py, e3', hb3, _, ex', g1, g2⟩ := hsp2.out i h4 wd (Ext.refl _)
              cases e3'
              obtain ⟨rfl, rfl⟩ : qx = px ∧ qy = py := by
                have := ex'.out.symm.trans ex.out
                cases this
                exact ⟨rfl, rfl⟩
              clear ex' hsp2
              go_wp2_with fail
              refine (cells_calls g qx qy _).mono ?_
              rw [r4.out]
              rintro e we ⟨rfl, hq⟩
              clear g1 g2 hb3
              (try replace hM := Lib.hid (hM.out.ext hq))
              (try replace hW := Lib.hid (hW.out.ext hq))
              (try replace hS := Lib.hid (hS.out.ext hq))
              (try replace hB := Lib.hid ((Keep.of_ext (X := fun _ => False) hq).blk hB.out id))
              (try replace hU := Lib.hid (hU.out.ext hq))
              (try replace hV := Lib.hid (hV.out.ext hq))
              (try replace hX := Lib.hid (hX.out.ext hq))
              (try replace hY := Lib.hid (hY.out.ext hq))
              replace hE := Lib.hid (hE.out.trans hq)
              clear hq
              have hsp2 : Hid (SpansAt (some ⟨b1, o1, none⟩) we q) := by
                obtain ⟨_, _, e, _, _, h⟩ := hS.out.open
                cases e
                exact Lib.hid h
              obtain ⟨b3, o3, px, py, e3', hb3, _, ex', g1, g2⟩ := hsp2.out i h4 we (Ext.refl _)
              cases e3'
              obtain ⟨rfl, rfl⟩ : qx = px ∧ qy = py := by
                have := ex'.out.symm.trans ex.out
                cases this
                exact ⟨rfl, rfl⟩
              clear ex' hsp2
              go_wp2_with fail
              refine (rCells_calls g qx qy _).mono ?_
              rw [r4.out]
              rintro e wf ⟨rfl, hq⟩
              clear g1 g2 hb3
              (try replace hM := Lib.hid (hM.out.ext hq))
              (try replace hW := Lib.hid (hW.out.ext hq))
              (try replace hS := Lib.hid (hS.out.ext hq))
              (try replace hB := Lib.hid ((Keep.of_ext (X := fun _ => False) hq).blk hB.out id))
              (try replace hU := Lib.hid (hU.out.ext hq))
              (try replace hV := Lib.hid (hV.out.ext hq))
              (try replace hX := Lib.hid (hX.out.ext hq))
              (try replace hY := Lib.hid (hY.out.ext hq))
              replace hE := Lib.hid (hE.out.trans hq)
              clear hq
              have b0 : wf.cell? ⟨bb, 0, none⟩ = some (.int .i64 qx) := hB.out.cell 0
              have b2 : wf.cell? ⟨bb, 1, none⟩ = some (.int .i64 qy) := hB.out.cell 1
              have blt := hB.out.lt
              go_wp2_with fail
              refine (same_calls _ _ m1 raw g qx qy _ hM.out hW.out).mono ?_
              rw [r3.out]
              rintro e wg ⟨rfl, hq⟩
              clear b0 b2 blt
              (try replace hM := Lib.hid (hM.out.ext hq))
              (try replace hW := Lib.hid (hW.out.ext hq))
              (try replace hS := Lib.hid (hS.out.ext hq))
              (try replace hB := Lib.hid ((Keep.of_ext (X := fun _ => False) hq).blk hB.out id))
              (try replace hU := Lib.hid (hU.out.ext hq))
              (try replace hV := Lib.hid (hV.out.ext hq))
              (try replace hX := Lib.hid (hX.out.ext hq))
              (try replace hY := Lib.hid (hY.out.ext hq))
              replace hE := Lib.hid (hE.out.trans hq)
              clear hq
              have b0 : wg.cell? ⟨bb, 0, none⟩ = some (.int .i64 qx) := hB.out.cell 0
              have b2 : wg.cell? ⟨bb, 1, none⟩ = some (.int .i64 qy) := hB.out.cell 1
              have blt := hB.out.lt
              go_wp2_with fail
              refine (rSame_calls _ _ m1 raw g qx qy _ hM.out hW.out).mono ?_
              rw [r3.out]
              rintro e wh ⟨rfl, hq⟩
              clear b0 b2 blt
              (try replace hM := Lib.hid (hM.out.ext hq))
              (try replace hW := Lib.hid (hW.out.ext hq))
              (try replace hS := Lib.hid (hS.out.ext hq))
              (try replace hB := Lib.hid ((Keep.of_ext (X := fun _ => False) hq).blk hB.out id))
              (try replace hU := Lib.hid (hU.out.ext hq))
              (try replace hV := Lib.hid (hV.out.ext hq))
              (try replace hX := Lib.hid (hX.out.ext hq))
              (try replace hY := Lib.hid (hY.out.ext hq))
              replace hE := Lib.hid (hE.out.trans hq)
              clear hq
              clear r1 r2 r3 r4 hB
              go_wp2_with fail
              refine (rNumbers_calls _ _ x1 x1 _ hU.out hV.out).mono ?_
              rw [decide_eq_true rfl]
              rintro e wi ⟨rfl, hq⟩
              (try replace hM := Lib.hid (hM.out.ext hq))
              (try replace hW := Lib.hid (hW.out.ext hq))
              (try replace hS := Lib.hid (hS.out.ext hq))
              (try replace hB := Lib.hid ((Keep.of_ext (X := fun _ => False) hq).blk hB.out id))
              (try replace hU := Lib.hid (hU.out.ext hq))
              (try replace hV := Lib.hid (hV.out.ext hq))
              (try replace hX := Lib.hid (hX.out.ext hq))
              (try replace hY := Lib.hid (hY.out.ext hq))
              replace hE := Lib.hid (hE.out.trans hq)
              clear hq
              clear hU hV
              go_wp2_with fail
              refine (rNumbers_calls _ _ x2 x2 _ hX.out hY.out).mono ?_
              rw [decide_eq_true rfl]
              rintro e wj ⟨rfl, hq⟩
              (try replace hM := Lib.hid (hM.out.ext hq))
              (try replace hW := Lib.hid (hW.out.ext hq))
              (try replace hS := Lib.hid (hS.out.ext hq))
              (try replace hB := Lib.hid ((Keep.of_ext (X := fun _ => False) hq).blk hB.out id))
              (try replace hU := Lib.hid (hU.out.ext hq))
              (try replace hV := Lib.hid (hV.out.ext hq))
              (try replace hX := Lib.hid (hX.out.ext hq))
              (try replace hY := Lib.hid (hY.out.ext hq))
              replace hE := Lib.hid (hE.out.trans hq)
              clear hq
              clear hX hY
              go_wp2
              go_roundw
              case rel => first | exact ⟨i + 1, by omega, by omega, by go_num, hM, hW, hS, hE⟩ | ((repeat apply Exists.intro); exact ⟨⟨i + 1, by omega, by omega, by go_num, hM, hW, hS, hE⟩, rfl⟩)
              case measure => simp [intOf]; omega
          · have d5 : decide ((i : Int) < 2) = false := decide_eq_false (by omega)
            obtain ⟨f1, f2, r5⟩ : ∃ x e, Hid (fitsG m1 g q = (x, e)) := ⟨_, _, rfl⟩
            go_wp2_with fail
            refine (fits_calls _ _ m1 g q _ hM.out hS.out (by omega) (by omega)).mono ?_
            rw [r5.out]
            rintro e wa ⟨rfl, hq⟩
            (try replace hM := Lib.hid (hM.out.ext hq))
            (try replace hW := Lib.hid (hW.out.ext hq))
            (try replace hS := Lib.hid (hS.out.ext hq))
            (try replace hB := Lib.hid ((Keep.of_ext (X := fun _ => False) hq).blk hB.out id))
            (try replace hU := Lib.hid (hU.out.ext hq))
            (try replace hV := Lib.hid (hV.out.ext hq))
            (try replace hX := Lib.hid (hX.out.ext hq))
            (try replace hY := Lib.hid (hY.out.ext hq))
            replace hE := Lib.hid (hE.out.trans hq)
            clear hq
            go_wp2_with fail
            refine (rFits_calls _ _ m1 g q _ hM.out hS.out).mono ?_
            rw [r5.out]
            rintro e wb ⟨rfl, hq⟩
            (try replace hM := Lib.hid (hM.out.ext hq))
            (try replace hW := Lib.hid (hW.out.ext hq))
            (try replace hS := Lib.hid (hS.out.ext hq))
            (try replace hB := Lib.hid ((Keep.of_ext (X := fun _ => False) hq).blk hB.out id))
            (try replace hU := Lib.hid (hU.out.ext hq))
            (try replace hV := Lib.hid (hV.out.ext hq))
            (try replace hX := Lib.hid (hX.out.ext hq))
            (try replace hY := Lib.hid (hY.out.ext hq))
            replace hE := Lib.hid (hE.out.trans hq)
            clear hq
            clear r5
            have hg2 : g + 1 = ((k + 1 : Nat) : Int) - 1 := by omega
            go_wp2
            go_roundw
            case rel => first | (refine ⟨k + 1, by omega, ?_, hM, hW, hS, hE⟩; first | (rw [hg2]; done) | (congr 1; omega))
            case measure => simp [intOf] <;> omega
        · have d4 : decide ((i : Int) < (q.length : Int)) = false := decide_eq_false (by omega)
          obtain ⟨f1, f2, r5⟩ : ∃ x e, Hid (fitsG m1 g q = (x, e)) := ⟨_, _, rfl⟩
          go_wp2_with fail
          refine (fits_calls _ _ m1 g q _ hM.out hS.out (by omega) (by omega)).mono ?_
          rw [r5.out]
          rintro e wa ⟨rfl, hq⟩
          (try replace hM := Lib.hid (hM.out.ext hq))
          (try replace hW := Lib.hid (hW.out.ext hq))
          (try replace hS := Lib.hid (hS.out.ext hq))
          (try replace hB := Lib.hid ((Keep.of_ext (X := fun _ => False) hq).blk hB.out id))
          (try replace hU := Lib.hid (hU.out.ext hq))
          (try replace hV := Lib.hid (hV.out.ext hq))
          (try replace hX := Lib.hid (hX.out.ext hq))
          (try replace hY := Lib.hid (hY.out.ext hq))
          replace hE := Lib.hid (hE.out.trans hq)
          clear hq
          go_wp2_with fail
          refine (rFits_calls _ _ m1 g q _ hM.out hS.out).mono ?_
          rw [r5.out]
          rintro e wb ⟨rfl, hq⟩
          (try replace hM := Lib.hid (hM.out.ext hq))
          (try replace hW := Lib.hid (hW.out.ext hq))
          (try replace hS := Lib.hid (hS.out.ext hq))
          (try replace hB := Lib.hid ((Keep.of_ext (X := fun _ => False) hq).blk hB.out id))
          (try replace hU := Lib.hid (hU.out.ext hq))
          (try replace hV := Lib.hid (hV.out.ext hq))
          (try replace hX := Lib.hid (hX.out.ext hq))
          (try replace hY := Lib.hid (hY.out.ext hq))
          replace hE := Lib.hid (hE.out.trans hq)
          clear hq
          clear r5
          have hg2 : g + 1 = ((k + 1 : Nat) : Int) - 1 := by omega
          go_wp2
          go_roundw
          case rel => first | (refine ⟨k + 1, by omega, ?_, hM, hW, hS, hE⟩; first | (rw [hg2]; done) | (congr 1; omega))
          case measure => simp [intOf] <;> omega
    · go_wp2
      go_ret
      exact ⟨rfl, hE.out⟩
end Go.Proofs.Ytcmcojmhlgknoaa
