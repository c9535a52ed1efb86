/- The law SpanGapIsFirst, walked: true for every list, every number and every window. -/
import Derived.Test.YtfajejelelbmmaaLH
import Derived.Test.YtfajejelelbmmaaLD
namespace Go.Proofs.Ytfajejelelbmmaa
open Go.RowKit

theorem meets_comb {N : List (Int × Int)} {n t : Int} (hc : chainB none N = true) (hn : 1 ≤ n) : decide (0 < (combL 1 N [(t, t + n)]).length) = true ↔ MeetsAt N n t := by
  rw [comb_some]
  constructor
  · rintro ⟨u, hu⟩
    have hu' : hasB N u = true ∧ hasB [(t, t + n)] u = true := by
      cases h1 : hasB N u <;> cases h2 : hasB [(t, t + n)] u <;> rw [h1, h2] at hu <;> simp [inB] at hu ⊢
    obtain ⟨q, hq, q1, q2⟩ := hasB_iff.1 hu'.1
    obtain ⟨s, hs, s1, s2⟩ := hasB_iff.1 hu'.2
    rw [List.mem_singleton] at hs
    subst hs
    dsimp only at s1 s2
    exact ⟨q, hq, by omega, by omega⟩
  · rintro ⟨s, hs, h1, h2⟩
    have h0 := (chainB_mem hc s hs).1
    refine ⟨max s.1 t, ?_⟩
    have h3 : hasB N (max s.1 t) = true := hasB_iff.2 ⟨s, hs, by omega, by omega⟩
    have h4 : hasB [(t, t + n)] (max s.1 t) = true := hasB_iff.2 ⟨_, List.mem_singleton.2 rfl, by dsimp only; omega, by dsimp only; omega⟩
    rw [h3, h4]; rfl
theorem ranged_one {u v : Int} (h1 : -2251799813685248 ≤ u ∧ u ≤ 2251799813685248) (h2 : -2251799813685248 ≤ v ∧ v ≤ 2251799813685248) : rangedB [(u, v)] = true := by
  have m : ∀ z : Int, -2251799813685248 ≤ z ∧ z ≤ 2251799813685248 → farB z = false := fun z h => by
    unfold farB
    rw [decide_eq_false (by omega), decide_eq_false (by omega)]; rfl
  simp only [rangedB, List.all_cons, List.all_nil, m u h1, m v h2]
  rfl
set_option maxHeartbeats 6400000 in
set_option maxRecDepth 100000 in
theorem gapIsFirst_law (va : Value) (l : List (Int × Int)) (n wf wt : Int) (w : World) (ha : Spans w va l) :
    Calls Try.prog 6 #[va, .int .i64 n, .agg #[.int .i64 wf, .int .i64 wt]] w fun e w' => e = .returned (.bool true) ∧ Ext w w' := by
  have ha' := Lib.hid ha
  obtain ⟨aA, aC, rfl⟩ := ha.form
  clear ha
  go_enter Try.func6, Try.ntmps6
  go_upto_region 1 with (fail)
  refine wp_abs (S := fun W => Hid (Ext w W) ∧ Hid (Blk W w.heap.size 25 #[.int .i64 wf, .int .i64 wt])) ?_ ?_
  · exact ⟨Lib.hid (by exact (by repeat' (first | (with_reducible exact Ext.refl _) | (with_reducible assumption) | (with_reducible refine Ext.drewN ?_ _) | (with_reducible refine Ext.drew ?_) | (with_reducible refine Ext.alloc ?_ _) | (with_reducible refine Ext.trans ?_ (by with_reducible assumption))))), Lib.hid (blk_new' rfl rfl)⟩
  rintro W0 ⟨hE, hS⟩
  go_wp2_with fail
  refine (sanity12_calls W0).mono ?_
  rintro e w0 ⟨rfl, hq⟩
  replace hS := Lib.hid (hS.out.below hq hS.out.lt)
  (try replace hx := Lib.hid (hx.out.ext hq))
  (try replace hy := Lib.hid (hy.out.ext hq))
  (try replace hz := Lib.hid (hz.out.ext hq))
  (try replace hn := Lib.hid (hn.out.ext hq))
  (try replace ho := Lib.hid (ho.out.ext hq))
  (try replace hm := Lib.hid (hm.out.ext hq))
  (try replace hd := Lib.hid (hd.out.ext hq))
  (try replace hp := Lib.hid (hp.out.ext hq))
  (try replace hq2 := Lib.hid (hq2.out.ext hq))
  (try replace hrn := Lib.hid (hrn.out.ext hq))
  (try replace hro := Lib.hid (hro.out.ext hq))
  (try replace hrm := Lib.hid (hrm.out.ext hq))
  (try replace hrd := Lib.hid (hrd.out.ext hq))
  (try replace hwhole := Lib.hid (hwhole.out.ext hq))
  (try replace hnone := Lib.hid (hnone.out.ext hq))
  (try replace honce := Lib.hid (honce.out.ext hq))
  (try replace htwice := Lib.hid (htwice.out.ext hq))
  (try replace hs := Lib.hid (hs.out.ext hq))
  (try replace hagain := Lib.hid (hagain.out.ext hq))
  replace hE := Lib.hid (hE.out.trans hq)
  clear hq
  go_wp2_with fail
  refine (few_calls _ l _ (ha'.out.ext hE.out)).mono ?_
  rintro e w0 ⟨v, x, rfl, hv, hxe, hxl, rfl⟩
  obtain ⟨xA, xC, rfl⟩ := hv.form
  have hx := Lib.hid hv
  clear hv
  clear ha' hxe
  have c0 : w0.cell? ⟨w.heap.size, 0, none⟩ = some (.int .i64 wf) := hS.out.cell 0
  have c1 : w0.cell? ⟨w.heap.size, 1, none⟩ = some (.int .i64 wt) := hS.out.cell 1
  go_wp2_with fail
  refine (spanGap_calls _ x n wf wt _ hx.out (by omega)).mono ?_
  rintro e w1 ⟨ok, gx, gy, rfl, hgap, hq⟩
  replace hS := Lib.hid (hS.out.below hq hS.out.lt)
  (try replace hx := Lib.hid (hx.out.ext hq))
  (try replace hy := Lib.hid (hy.out.ext hq))
  (try replace hz := Lib.hid (hz.out.ext hq))
  (try replace hn := Lib.hid (hn.out.ext hq))
  (try replace ho := Lib.hid (ho.out.ext hq))
  (try replace hm := Lib.hid (hm.out.ext hq))
  (try replace hd := Lib.hid (hd.out.ext hq))
  (try replace hp := Lib.hid (hp.out.ext hq))
  (try replace hq2 := Lib.hid (hq2.out.ext hq))
  (try replace hrn := Lib.hid (hrn.out.ext hq))
  (try replace hro := Lib.hid (hro.out.ext hq))
  (try replace hrm := Lib.hid (hrm.out.ext hq))
  (try replace hrd := Lib.hid (hrd.out.ext hq))
  (try replace hwhole := Lib.hid (hwhole.out.ext hq))
  (try replace hnone := Lib.hid (hnone.out.ext hq))
  (try replace honce := Lib.hid (honce.out.ext hq))
  (try replace htwice := Lib.hid (htwice.out.ext hq))
  (try replace hs := Lib.hid (hs.out.ext hq))
  (try replace hagain := Lib.hid (hagain.out.ext hq))
  replace hE := Lib.hid (hE.out.trans hq)
  clear hq
  have hgap' := Lib.hid hgap
  clear hgap c0 c1
  go_upto_region 4 with (fail)
  refine wp_abs (S := fun W => Hid (Ext w1 W) ∧ Hid (Blk W w1.heap.size 25 #[.int .i64 gx, .int .i64 gy])) ?_ ?_
  · exact ⟨Lib.hid (by exact (by repeat' (first | (with_reducible exact Ext.refl _) | (with_reducible assumption) | (with_reducible refine Ext.drewN ?_ _) | (with_reducible refine Ext.drew ?_) | (with_reducible refine Ext.alloc ?_ _) | (with_reducible refine Ext.trans ?_ (by with_reducible assumption))))), Lib.hid (blk_new' rfl rfl)⟩
  rintro W2 ⟨hq2, hG⟩
  have hq := hq2.out
  replace hS := Lib.hid (hS.out.below hq hS.out.lt)
  (try replace hx := Lib.hid (hx.out.ext hq))
  (try replace hy := Lib.hid (hy.out.ext hq))
  (try replace hz := Lib.hid (hz.out.ext hq))
  (try replace hn := Lib.hid (hn.out.ext hq))
  (try replace ho := Lib.hid (ho.out.ext hq))
  (try replace hm := Lib.hid (hm.out.ext hq))
  (try replace hd := Lib.hid (hd.out.ext hq))
  (try replace hp := Lib.hid (hp.out.ext hq))
  (try replace hq2 := Lib.hid (hq2.out.ext hq))
  (try replace hrn := Lib.hid (hrn.out.ext hq))
  (try replace hro := Lib.hid (hro.out.ext hq))
  (try replace hrm := Lib.hid (hrm.out.ext hq))
  (try replace hrd := Lib.hid (hrd.out.ext hq))
  (try replace hwhole := Lib.hid (hwhole.out.ext hq))
  (try replace hnone := Lib.hid (hnone.out.ext hq))
  (try replace honce := Lib.hid (honce.out.ext hq))
  (try replace htwice := Lib.hid (htwice.out.ext hq))
  (try replace hs := Lib.hid (hs.out.ext hq))
  (try replace hagain := Lib.hid (hagain.out.ext hq))
  replace hE := Lib.hid (hE.out.trans hq)
  clear hq
  obtain ⟨⟨n1, n2⟩, kn⟩ : ∃ r, Hid (combT 0 x [] = r) := ⟨_, rfl⟩
  go_wp2_with fail
  refine (spanNorm_calls _ x _ hx.out (by omega)).mono ?_
  rintro e w3 ⟨v, rfl, hv, hq⟩
  rw [kn.out] at hv ⊢
  dsimp only at hv ⊢
  obtain ⟨nA, nC, rfl⟩ := hv.read.form
  replace hS := Lib.hid (hS.out.below hq hS.out.lt)
  replace hG := Lib.hid (hG.out.below hq hG.out.lt)
  (try replace hx := Lib.hid (hx.out.ext hq))
  (try replace hy := Lib.hid (hy.out.ext hq))
  (try replace hz := Lib.hid (hz.out.ext hq))
  (try replace hn := Lib.hid (hn.out.ext hq))
  (try replace ho := Lib.hid (ho.out.ext hq))
  (try replace hm := Lib.hid (hm.out.ext hq))
  (try replace hd := Lib.hid (hd.out.ext hq))
  (try replace hp := Lib.hid (hp.out.ext hq))
  (try replace hq2 := Lib.hid (hq2.out.ext hq))
  (try replace hrn := Lib.hid (hrn.out.ext hq))
  (try replace hro := Lib.hid (hro.out.ext hq))
  (try replace hrm := Lib.hid (hrm.out.ext hq))
  (try replace hrd := Lib.hid (hrd.out.ext hq))
  (try replace hwhole := Lib.hid (hwhole.out.ext hq))
  (try replace hnone := Lib.hid (hnone.out.ext hq))
  (try replace honce := Lib.hid (honce.out.ext hq))
  (try replace htwice := Lib.hid (htwice.out.ext hq))
  (try replace hs := Lib.hid (hs.out.ext hq))
  (try replace hagain := Lib.hid (hagain.out.ext hq))
  replace hE := Lib.hid (hE.out.trans hq)
  clear hq
  have hn := Lib.hid hv.read
  clear hv hq2
  have c0 : w3.cell? ⟨w.heap.size, 0, none⟩ = some (.int .i64 wf) := hS.out.cell 0
  have c1 : w3.cell? ⟨w.heap.size, 1, none⟩ = some (.int .i64 wt) := hS.out.cell 1
  have g0 : w3.cell? ⟨w1.heap.size, 0, none⟩ = some (.int .i64 gx) := hG.out.cell 0
  have g1 : w3.cell? ⟨w1.heap.size, 1, none⟩ = some (.int .i64 gy) := hG.out.cell 1
  rcases hgap'.out with ⟨hbad, rfl, rfl, rfl⟩ | ⟨hgood, hIs⟩
  · have heq := span_eql 0 0 0 0
    have hgd := fun op p q => span_guard op p q 0 0 0 0
    rw [show (decide ((0 : Int) = 0) && decide ((0 : Int) = 0)) = true by decide] at heq
    have hb2 := hbad
    unfold gapBad at hb2
    simp only [Bool.or_eq_true, Bool.not_eq_true', decide_eq_true_eq] at hb2
    clear hgap' hbad
    by_cases q1 : n < 1
    · have d1 : decide (n < 1) = true := decide_eq_true q1
      clear kn hb2
      go_wp2
      go_ret
      exact ⟨rfl, hE.out⟩
    · have d1 : decide (n < 1) = false := decide_eq_false q1
      cases hr : rangedB x with
      | false =>
        obtain ⟨rfl, rfl⟩ : n1 = [] ∧ n2 = 1 := by have := kn.out; rw [combT_no (by rw [hr]; rfl)] at this; cases this; exact ⟨rfl, rfl⟩
        clear kn hb2
        go_wp2
        go_ret
        exact ⟨rfl, hE.out⟩
      | true =>
        obtain rfl : n2 = 0 := by have := kn.out; rw [combT_ok hr rfl] at this; cases this; rfl
        rw [hr] at hb2
        have hb3 : farB wf = true ∨ farB wt = true := by
          rcases hb2 with ((h | h) | h) | h
          · cases h
          · exact absurd h q1
          · exact Or.inl h
          · exact Or.inr h
        clear kn hb2
        by_cases q2 : wf < -2251799813685248
        · have d2 : decide (wf < -2251799813685248) = true := decide_eq_true q2
          go_wp2
          go_ret
          exact ⟨rfl, hE.out⟩
        have d2 : decide (wf < -2251799813685248) = false := decide_eq_false q2
        by_cases q3 : 2251799813685248 < wf
        · have d3 : decide (2251799813685248 < wf) = true := decide_eq_true q3
          go_wp2
          go_ret
          exact ⟨rfl, hE.out⟩
        have d3 : decide (2251799813685248 < wf) = false := decide_eq_false q3
        by_cases q4 : wt < -2251799813685248
        · have d4 : decide (wt < -2251799813685248) = true := decide_eq_true q4
          go_wp2
          go_ret
          exact ⟨rfl, hE.out⟩
        have d4 : decide (wt < -2251799813685248) = false := decide_eq_false q4
        have q5 : 2251799813685248 < wt := by
          unfold farB at hb3
          rw [d2, d3, d4] at hb3
          simp at hb3
          exact hb3
        have d5 : decide (2251799813685248 < wt) = true := decide_eq_true q5
        clear hb3
        go_wp2
        go_ret
        exact ⟨rfl, hE.out⟩
  · have hgd2 := hgood
    unfold gapBad at hgd2
    simp only [Bool.or_eq_false_iff, Bool.not_eq_false', decide_eq_false_iff_not] at hgd2
    obtain ⟨⟨⟨hr, q1⟩, hf1⟩, hf2⟩ := hgd2
    obtain ⟨rfl, rfl⟩ : n1 = combL 0 x [] ∧ n2 = 0 := by have := kn.out; rw [combT_ok hr rfl] at this; cases this; exact ⟨rfl, rfl⟩
    have hch : Hid (chainB none (combL 0 x []) = true) := Lib.hid (comb_chain _ _ _)
    have hrg : Hid (rangedB (combL 0 x []) = true) := Lib.hid (comb_ranged hr rfl)
    have hln : (combL 0 x []).length ≤ 100 := by have := comb_len 0 x []; simp at this; omega
    have hIs' := Lib.hid hIs
    obtain ⟨N, hNe⟩ : ∃ N, Hid (combL 0 x [] = N) := ⟨_, rfl⟩
    rw [hNe.out] at hn hch hrg hln hIs' ⊢
    obtain ⟨wf0, wf1⟩ := far_false hf1
    obtain ⟨wt0, wt1⟩ := far_false hf2
    have d1 : decide (n < 1) = false := decide_eq_false q1
    have d2 : decide (wf < -2251799813685248) = false := decide_eq_false (by omega)
    have d3 : decide (2251799813685248 < wf) = false := decide_eq_false (by omega)
    have d4 : decide (wt < -2251799813685248) = false := decide_eq_false (by omega)
    have d5 : decide (2251799813685248 < wt) = false := decide_eq_false (by omega)
    obtain ⟨hnat, _⟩ := hn.out.at_
    have hnat' := Lib.hid hnat
    clear hgap' hgood kn hr hf1 hf2 hIs hNe hnat
    cases ok with
    | true =>
      obtain ⟨a1, a2, a3, a4⟩ := hIs'.out.yes rfl
      have km : Hid (combT 1 N [(gx, gy)] = ([], 0)) := Lib.hid (by
        rw [combT_ok hrg.out (ranged_one ⟨by omega, by omega⟩ ⟨by omega, by omega⟩), a2]
        have h : ¬ decide (0 < (combL 1 N [(gx, gx + n)]).length) = true := fun h => a4 ((meets_comb hch.out (by omega)).1 h)
        rw [decide_eq_true_iff] at h
        rw [List.eq_nil_of_length_eq_zero (l := combL 1 N [(gx, gx + n)]) (by omega)])
      have f1 : decide (gx < wf) = false := decide_eq_false (by omega)
      have f2 : decide (wt < gy) = false := decide_eq_false (by omega)
      have f3 : (gy - gx != n) = false := by rw [bne_eq_false_iff_eq]; omega
      have b1 : gx ≤ gy := by omega
      have b2 : gy ≤ 2251799813685248 := by omega
      have b3 : -2251799813685248 ≤ gx := by omega
      replace a2 := Lib.hid a2
      clear a4
      go_wp2_with fail
      refine (spanMeet_calls _ _ N [(gx, gy)] _ (hn.out.ext ((Ext.refl w3).alloc _)) (lit_spans w3 [(gx, gy)] (by simp)) (by omega) (by simp)).mono ?_
      rintro e w4 ⟨v, rfl, hv, hq0⟩
      rw [km.out] at hv ⊢
      dsimp only at hv ⊢
      obtain ⟨mA, mC, rfl⟩ := hv.read.form
      have hW : Hid (Ext w3 w4) := Lib.hid (((Ext.refl w3).alloc _).trans hq0)
      replace c0 := hW.out.cell c0
      replace c1 := hW.out.cell c1
      replace g0 := hW.out.cell g0
      replace g1 := hW.out.cell g1
      replace hE := Lib.hid (hE.out.trans hW.out)
      clear hv hq0 km
      go_wp2_with fail
      go_loopw [15] (fun vi wr => ∃ i : Nat, i ≤ N.length + 1 ∧ vi = .int .i64 i ∧ Hid (Ext w4 wr)) (fun vi _ => N.length + 1 - (intOf vi).toNat)
      case atStart => exact ⟨0, by omega, rfl, Lib.hid (Ext.refl _)⟩
      case round =>
        obtain ⟨i, hi, rfl, hxr⟩ := hrel
        have cc0 : wr.cell? ⟨w.heap.size, 0, none⟩ = some (.int .i64 wf) := hxr.out.cell c0
        have cc1 : wr.cell? ⟨w.heap.size, 1, none⟩ = some (.int .i64 wt) := hxr.out.cell c1
        have gg0 : wr.cell? ⟨w1.heap.size, 0, none⟩ = some (.int .i64 gx) := hxr.out.cell g0
        by_cases h1 : i ≤ N.length
        · have e1 : decide ((i : Int) ≤ (N.length : Int)) = true := by simp; omega
          rcases Nat.eq_zero_or_pos i with h0 | h0
          · subst h0
            by_cases t1 : wt - wf < n
            · have d6 : decide (wt - wf < n) = true := decide_eq_true t1
              go_wp2
              go_roundw
              case rel => exact ⟨0 + 1, by omega, by go_num, hxr⟩
              case measure => first | (simp [intOf]; done) | (simp [intOf]; omega)
            · have d6 : decide (wt - wf < n) = false := decide_eq_false t1
              by_cases t2 : gx ≤ wf
              · have d7 : decide (gx ≤ wf) = true := decide_eq_true t2
                go_wp2
                go_roundw
                case rel => exact ⟨0 + 1, by omega, by go_num, hxr⟩
                case measure => first | (simp [intOf]; done) | (simp [intOf]; omega)
              · have d7 : decide (gx ≤ wf) = false := decide_eq_false t2
                have hmt : Hid (MeetsAt N n wf) := Lib.hid (hIs'.out.before wf (by omega) (by omega) (fun _ => by omega))
                obtain ⟨m1, hm1⟩ : ∃ m1, Hid (combL 1 N [(wf, wf + n)] = m1) := ⟨_, rfl⟩
                have km : Hid (combT 1 N [(wf, wf + n)] = (m1, 0)) := Lib.hid (by rw [combT_ok hrg.out (ranged_one ⟨by omega, by omega⟩ ⟨by omega, by omega⟩), hm1.out])
                have hk0 : m1.length ≠ 0 := by have h := (meets_comb hch.out (by omega)).2 hmt.out; rw [hm1.out, decide_eq_true_iff] at h; omega
                clear hm1 hmt
                go_wp2_with fail
                refine (spanMeet_calls _ _ N [(wf, wf + n)] _ (hn.out.ext (((hW.out.trans hxr.out)).alloc _)) (lit_spans wr [(wf, wf + n)] (by simp)) (by omega) (by simp)).mono ?_
                rintro e w6 ⟨v6, rfl, hv, hq0⟩
                rw [km.out] at hv ⊢
                dsimp only at hv ⊢
                obtain ⟨mA6, mC6, rfl⟩ := hv.read.form
                have hx6 : Hid (Ext w4 w6) := Lib.hid ((hxr.out.alloc _).trans hq0)
                obtain ⟨k, hk⟩ : ∃ k, Hid (m1.length = k) := ⟨_, rfl⟩
                rw [hk.out] at hk0 ⊢
                have d8 : decide ((k : Int) = 0) = false := decide_eq_false (by omega)
                clear hk hv hq0 km
                go_wp2
                go_roundw
                case rel => first | exact ⟨0 + 1, by omega, by go_num, hx6⟩ | ((repeat apply Exists.intro); exact ⟨⟨0 + 1, by omega, by go_num, hx6⟩, rfl⟩)
                case measure => first | (simp [intOf]; done) | (simp [intOf]; omega)
          · obtain ⟨j, rfl⟩ : ∃ j, i = j + 1 := ⟨i - 1, by omega⟩
            obtain ⟨b1, o1, u, v, rfl, hb1, _, ex, k1, k2⟩ := hnat'.out j (by omega) wr (hW.out.trans hxr.out)
            have hvr := (ranged_at hrg.out (List.mem_of_getElem? ex.out)).2
            obtain ⟨v0, v1⟩ := hvr
            have z0 := After.cell cc0
            have z1 := After.cell k2
            clear ex k1 k2
            go_wp2_with fail
            refine wp_region_after (by kernel_rfl) (by kernel_rfl) ?_
            repeat (go_big_quiet_step (fail))
            refine wpQuiet_nil ?_
            rintro W5 ⟨y5, e5⟩
            have hx5 : Ext wr W5 := by rw [e5]; exact y5.ext
            replace hxr := Lib.hid (hxr.out.trans hx5)
            replace cc0 := hx5.cell cc0
            replace cc1 := hx5.cell cc1
            replace gg0 := hx5.cell gg0
            clear z0 z1 e5 hx5 y5
            obtain ⟨st, hst⟩ : ∃ st, Hid (max wf v = st) := ⟨_, rfl⟩
            have st0 : wf ≤ st := by rw [← hst.out]; omega
            have st1 : st ≤ 2251799813685248 := by rw [← hst.out]; omega
            rw [hst.out]
            clear hst
            by_cases t1 : wt - st < n
            · have d6 : decide (wt - st < n) = true := decide_eq_true t1
              go_wp2
              go_roundw
              case rel => exact ⟨(j + 1) + 1, by omega, by go_num, hxr⟩
              case measure => first | (simp [intOf]; done) | (simp [intOf]; omega)
            · have d6 : decide (wt - st < n) = false := decide_eq_false t1
              by_cases t2 : gx ≤ st
              · have d7 : decide (gx ≤ st) = true := decide_eq_true t2
                go_wp2
                go_roundw
                case rel => exact ⟨(j + 1) + 1, by omega, by go_num, hxr⟩
                case measure => first | (simp [intOf]; done) | (simp [intOf]; omega)
              · have d7 : decide (gx ≤ st) = false := decide_eq_false t2
                have hmt : Hid (MeetsAt N n st) := Lib.hid (hIs'.out.before st (by omega) (by omega) (fun _ => by omega))
                obtain ⟨m1, hm1⟩ : ∃ m1, Hid (combL 1 N [(st, st + n)] = m1) := ⟨_, rfl⟩
                have km : Hid (combT 1 N [(st, st + n)] = (m1, 0)) := Lib.hid (by rw [combT_ok hrg.out (ranged_one ⟨by omega, by omega⟩ ⟨by omega, by omega⟩), hm1.out])
                have hk0 : m1.length ≠ 0 := by have h := (meets_comb hch.out (by omega)).2 hmt.out; rw [hm1.out, decide_eq_true_iff] at h; omega
                clear hm1 hmt
                go_wp2_with fail
                refine (spanMeet_calls _ _ N [(st, st + n)] _ (hn.out.ext (((hW.out.trans hxr.out)).alloc _)) (lit_spans W5 [(st, st + n)] (by simp)) (by omega) (by simp)).mono ?_
                rintro e w6 ⟨v6, rfl, hv, hq0⟩
                rw [km.out] at hv ⊢
                dsimp only at hv ⊢
                obtain ⟨mA6, mC6, rfl⟩ := hv.read.form
                have hx6 : Hid (Ext w4 w6) := Lib.hid ((hxr.out.alloc _).trans hq0)
                obtain ⟨k, hk⟩ : ∃ k, Hid (m1.length = k) := ⟨_, rfl⟩
                rw [hk.out] at hk0 ⊢
                have d8 : decide ((k : Int) = 0) = false := decide_eq_false (by omega)
                clear hk hv hq0 km
                go_wp2
                go_roundw
                case rel => first | exact ⟨(j + 1) + 1, by omega, by go_num, hx6⟩ | ((repeat apply Exists.intro); exact ⟨⟨(j + 1) + 1, by omega, by go_num, hx6⟩, rfl⟩)
                case measure => first | (simp [intOf]; done) | (simp [intOf]; omega)
        · have e1 : decide ((i : Int) ≤ (N.length : Int)) = false := by simp; omega
          go_wp2
          go_ret
          exact ⟨rfl, hE.out.trans hxr.out⟩
    | false =>
      have hW : Hid (Ext w3 w3) := Lib.hid (Ext.refl _)
      go_wp2_with fail
      go_loopw [15] (fun vi wr => ∃ i : Nat, i ≤ N.length + 1 ∧ vi = .int .i64 i ∧ Hid (Ext w3 wr)) (fun vi _ => N.length + 1 - (intOf vi).toNat)
      case atStart => exact ⟨0, by omega, rfl, Lib.hid (Ext.refl _)⟩
      case round =>
        obtain ⟨i, hi, rfl, hxr⟩ := hrel
        have cc0 : wr.cell? ⟨w.heap.size, 0, none⟩ = some (.int .i64 wf) := hxr.out.cell c0
        have cc1 : wr.cell? ⟨w.heap.size, 1, none⟩ = some (.int .i64 wt) := hxr.out.cell c1
        have gg0 : wr.cell? ⟨w1.heap.size, 0, none⟩ = some (.int .i64 gx) := hxr.out.cell g0
        by_cases h1 : i ≤ N.length
        · have e1 : decide ((i : Int) ≤ (N.length : Int)) = true := by simp; omega
          rcases Nat.eq_zero_or_pos i with h0 | h0
          · subst h0
            by_cases t1 : wt - wf < n
            · have d6 : decide (wt - wf < n) = true := decide_eq_true t1
              go_wp2
              go_roundw
              case rel => exact ⟨0 + 1, by omega, by go_num, hxr⟩
              case measure => first | (simp [intOf]; done) | (simp [intOf]; omega)
            · have d6 : decide (wt - wf < n) = false := decide_eq_false t1
              have hmt : Hid (MeetsAt N n wf) := Lib.hid (hIs'.out.before wf (by omega) (by omega) (fun h => by cases h))
              obtain ⟨m1, hm1⟩ : ∃ m1, Hid (combL 1 N [(wf, wf + n)] = m1) := ⟨_, rfl⟩
              have km : Hid (combT 1 N [(wf, wf + n)] = (m1, 0)) := Lib.hid (by rw [combT_ok hrg.out (ranged_one ⟨by omega, by omega⟩ ⟨by omega, by omega⟩), hm1.out])
              have hk0 : m1.length ≠ 0 := by have h := (meets_comb hch.out (by omega)).2 hmt.out; rw [hm1.out, decide_eq_true_iff] at h; omega
              clear hm1 hmt
              go_wp2_with fail
              refine (spanMeet_calls _ _ N [(wf, wf + n)] _ (hn.out.ext (((hW.out.trans hxr.out)).alloc _)) (lit_spans wr [(wf, wf + n)] (by simp)) (by omega) (by simp)).mono ?_
              rintro e w6 ⟨v6, rfl, hv, hq0⟩
              rw [km.out] at hv ⊢
              dsimp only at hv ⊢
              obtain ⟨mA6, mC6, rfl⟩ := hv.read.form
              have hx6 : Hid (Ext w3 w6) := Lib.hid ((hxr.out.alloc _).trans hq0)
              obtain ⟨k, hk⟩ : ∃ k, Hid (m1.length = k) := ⟨_, rfl⟩
              rw [hk.out] at hk0 ⊢
              have d8 : decide ((k : Int) = 0) = false := decide_eq_false (by omega)
              clear hk hv hq0 km
              go_wp2
              go_roundw
              case rel => first | exact ⟨0 + 1, by omega, by go_num, hx6⟩ | ((repeat apply Exists.intro); exact ⟨⟨0 + 1, by omega, by go_num, hx6⟩, rfl⟩)
              case measure => first | (simp [intOf]; done) | (simp [intOf]; omega)
          · obtain ⟨j, rfl⟩ : ∃ j, i = j + 1 := ⟨i - 1, by omega⟩
            obtain ⟨b1, o1, u, v, rfl, hb1, _, ex, k1, k2⟩ := hnat'.out j (by omega) wr (hW.out.trans hxr.out)
            have hvr := (ranged_at hrg.out (List.mem_of_getElem? ex.out)).2
            obtain ⟨v0, v1⟩ := hvr
            have z0 := After.cell cc0
            have z1 := After.cell k2
            clear ex k1 k2
            go_wp2_with fail
            refine wp_region_after (by kernel_rfl) (by kernel_rfl) ?_
            repeat (go_big_quiet_step (fail))
            refine wpQuiet_nil ?_
            rintro W5 ⟨y5, e5⟩
            have hx5 : Ext wr W5 := by rw [e5]; exact y5.ext
            replace hxr := Lib.hid (hxr.out.trans hx5)
            replace cc0 := hx5.cell cc0
            replace cc1 := hx5.cell cc1
            replace gg0 := hx5.cell gg0
            clear z0 z1 e5 hx5 y5
            obtain ⟨st, hst⟩ : ∃ st, Hid (max wf v = st) := ⟨_, rfl⟩
            have st0 : wf ≤ st := by rw [← hst.out]; omega
            have st1 : st ≤ 2251799813685248 := by rw [← hst.out]; omega
            rw [hst.out]
            clear hst
            by_cases t1 : wt - st < n
            · have d6 : decide (wt - st < n) = true := decide_eq_true t1
              go_wp2
              go_roundw
              case rel => exact ⟨(j + 1) + 1, by omega, by go_num, hxr⟩
              case measure => first | (simp [intOf]; done) | (simp [intOf]; omega)
            · have d6 : decide (wt - st < n) = false := decide_eq_false t1
              have hmt : Hid (MeetsAt N n st) := Lib.hid (hIs'.out.before st (by omega) (by omega) (fun h => by cases h))
              obtain ⟨m1, hm1⟩ : ∃ m1, Hid (combL 1 N [(st, st + n)] = m1) := ⟨_, rfl⟩
              have km : Hid (combT 1 N [(st, st + n)] = (m1, 0)) := Lib.hid (by rw [combT_ok hrg.out (ranged_one ⟨by omega, by omega⟩ ⟨by omega, by omega⟩), hm1.out])
              have hk0 : m1.length ≠ 0 := by have h := (meets_comb hch.out (by omega)).2 hmt.out; rw [hm1.out, decide_eq_true_iff] at h; omega
              clear hm1 hmt
              go_wp2_with fail
              refine (spanMeet_calls _ _ N [(st, st + n)] _ (hn.out.ext (((hW.out.trans hxr.out)).alloc _)) (lit_spans W5 [(st, st + n)] (by simp)) (by omega) (by simp)).mono ?_
              rintro e w6 ⟨v6, rfl, hv, hq0⟩
              rw [km.out] at hv ⊢
              dsimp only at hv ⊢
              obtain ⟨mA6, mC6, rfl⟩ := hv.read.form
              have hx6 : Hid (Ext w3 w6) := Lib.hid ((hxr.out.alloc _).trans hq0)
              obtain ⟨k, hk⟩ : ∃ k, Hid (m1.length = k) := ⟨_, rfl⟩
              rw [hk.out] at hk0 ⊢
              have d8 : decide ((k : Int) = 0) = false := decide_eq_false (by omega)
              clear hk hv hq0 km
              go_wp2
              go_roundw
              case rel => first | exact ⟨(j + 1) + 1, by omega, by go_num, hx6⟩ | ((repeat apply Exists.intro); exact ⟨⟨(j + 1) + 1, by omega, by go_num, hx6⟩, rfl⟩)
              case measure => first | (simp [intOf]; done) | (simp [intOf]; omega)
        · have e1 : decide ((i : Int) ≤ (N.length : Int)) = false := by simp; omega
          go_wp2
          go_ret
          exact ⟨rfl, hE.out.trans hxr.out⟩
theorem spanGapIsFirst_calls (va : Value) (a : List (Int × Int)) (n : Int) (_ : -9223372036854775808 ≤ n) (_ : n ≤ 9223372036854775807) (vs : Value) (s : Int × Int) (w : World) (ha : Spans w va a) (hs : SpanV w vs s) :
    Calls Try.prog 6 #[va, .int .i64 n, vs] w fun e w' => e = .returned (.bool true) ∧ Ext w w' := by
  unfold SpanV at hs
  subst hs
  exact gapIsFirst_law va a n s.1 s.2 w ha
end Go.Proofs.Ytfajejelelbmmaa
