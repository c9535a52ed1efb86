/- The law SpanWithin, walked: true for every list and every span. -/
import Derived.Test.YtfajejelelbmmaaLB
namespace Go.Proofs.Ytfajejelelbmmaa
open Go.RowKit

theorem has_end : ∀ {l : List (Int × Int)}, chainB none l = true → ∀ z ∈ l, hasB l z.2 = false
  | [], _, z, hz => by cases hz
  | s :: r, h, z, hz => by
    obtain ⟨a, _, c⟩ := chainB_cons.1 h
    rw [hasB_cons]
    rcases List.mem_cons.1 hz with rfl | hz
    · rw [has_behind c (Int.le_refl _), decide_eq_false (show ¬ z.2 < z.2 by omega)]; simp
    · have h1 := chainB_mem c z hz
      have h2 := h1.2 _ rfl
      rw [has_end (chainB_weak c) z hz, decide_eq_false (show ¬ z.2 < s.2 by omega)]; simp
theorem within_minus {l : List (Int × Int)} {x y : Int} (hn : normalB l = true) : withinL l (x, y) = (decide (x < y) && decide (combL 2 [(x, y)] l = [])) := by
  have hc : chainB none l = true := by simp only [normalB, Bool.and_eq_true] at hn; exact hn.1
  unfold withinL
  rw [hn, Bool.true_and]
  by_cases hxy : x < y
  · rw [decide_eq_true hxy, Bool.true_and, Bool.true_and, Bool.eq_iff_iff, decide_eq_true_iff, List.any_eq_true]
    have hs : ∀ t, hasB [(x, y)] t = (decide (x ≤ t) && decide (t < y)) := fun t => by rw [hasB_cons, hasB_nil, Bool.or_false]
    constructor
    · rintro ⟨z, hz, h⟩
      simp only [Bool.and_eq_true, decide_eq_true_eq] at h
      refine chain_unique (comb_chain _ _ _) rfl fun t => ?_
      rw [comb_has, hasB_nil, hs]
      by_cases h1 : x ≤ t ∧ t < y
      · have : hasB l t = true := hasB_iff.2 ⟨z, hz, by omega, by omega⟩
        rw [this]; simp [inB]
      · have : (decide (x ≤ t) && decide (t < y)) = false := by simpa using fun h2 => by simpa [h2] using h1
        rw [this]; simp [inB]
    · intro h
      have all : ∀ t, x ≤ t → t < y → hasB l t = true := fun t h1 h2 => by
        have := comb_has 2 [(x, y)] l t
        rw [h, hasB_nil, hs, decide_eq_true h1, decide_eq_true h2] at this
        cases hl : hasB l t with
        | true => rfl
        | false => rw [hl] at this; simp [inB] at this
      obtain ⟨z, hz, z1, z2⟩ := hasB_iff.1 (all x (Int.le_refl _) hxy)
      refine ⟨z, hz, ?_⟩
      simp only [Bool.and_eq_true, decide_eq_true_eq]
      refine ⟨z1, ?_⟩
      rcases Int.lt_or_le z.2 y with h1 | h1
      · have := all z.2 (by omega) h1
        rw [has_end hc z hz] at this
        cases this
      · exact h1
  · rw [decide_eq_false hxy, Bool.false_and, Bool.false_and]
theorem eq_nil_len {l : List (Int × Int)} : ((l.length : Int) == 0) = decide (l = []) := by
  rw [Bool.eq_iff_iff, beq_iff_eq, decide_eq_true_iff]
  constructor
  · intro h; exact List.eq_nil_of_length_eq_zero (by omega)
  · rintro rfl; rfl
/-- a span by value -/
def SpanV (_ : World) (v : Value) (s : Int × Int) : Prop := v = .agg #[.int .i64 s.1, .int .i64 s.2]
set_option maxHeartbeats 3200000 in
set_option maxRecDepth 100000 in
theorem spanWithin_law (va : Value) (a : List (Int × Int)) (p q : Int) (w : World) (ha : Spans w va a) :
    Calls Try.prog 10 #[va, .agg #[.int .i64 p, .int .i64 q]] w fun e w' => e = .returned (.bool true) ∧ Ext w w' := by
  have ha' := Lib.hid ha
  obtain ⟨aA, aC, rfl⟩ := ha.form
  clear ha
  go_enter Try.func10, Try.ntmps10
  go_upto_region 1 with (fail)
  refine wp_abs (S := fun W => Hid (Ext w W) ∧ Hid (Blk W w.heap.size 25 #[.int .i64 p, .int .i64 q])) ?_ ?_
  · exact ⟨Lib.hid (by exact (by repeat' (first | (with_reducible exact Ext.refl _) | (with_reducible assumption) | (with_reducible refine Ext.drewN ?_ _) | (with_reducible refine Ext.drew ?_) | (with_reducible refine Ext.alloc ?_ _) | (with_reducible refine Ext.trans ?_ (by with_reducible assumption))))), Lib.hid (blk_new' rfl rfl)⟩
  rintro W0 ⟨hE, hS⟩
  go_wp2_with fail
  refine (sanity12_calls W0).mono ?_
  rintro e w0 ⟨rfl, hq⟩
  replace hS := Lib.hid (hS.out.below hq hS.out.lt)
  (try replace hx := Lib.hid (hx.out.ext hq))
  (try replace hy := Lib.hid (hy.out.ext hq))
  (try replace hz := Lib.hid (hz.out.ext hq))
  (try replace hn := Lib.hid (hn.out.ext hq))
  (try replace ho := Lib.hid (ho.out.ext hq))
  (try replace hm := Lib.hid (hm.out.ext hq))
  (try replace hd := Lib.hid (hd.out.ext hq))
  (try replace hp := Lib.hid (hp.out.ext hq))
  (try replace hq2 := Lib.hid (hq2.out.ext hq))
  (try replace hrn := Lib.hid (hrn.out.ext hq))
  (try replace hro := Lib.hid (hro.out.ext hq))
  (try replace hrm := Lib.hid (hrm.out.ext hq))
  (try replace hrd := Lib.hid (hrd.out.ext hq))
  (try replace hwhole := Lib.hid (hwhole.out.ext hq))
  (try replace hnone := Lib.hid (hnone.out.ext hq))
  (try replace honce := Lib.hid (honce.out.ext hq))
  (try replace htwice := Lib.hid (htwice.out.ext hq))
  (try replace hs := Lib.hid (hs.out.ext hq))
  (try replace hagain := Lib.hid (hagain.out.ext hq))
  replace hE := Lib.hid (hE.out.trans hq)
  clear hq
  go_wp2_with fail
  refine (few_calls _ a _ (ha'.out.ext hE.out)).mono ?_
  rintro e w0 ⟨v, x, rfl, hv, hxe, hxl, rfl⟩
  obtain ⟨xA, xC, rfl⟩ := hv.form
  have hx := Lib.hid hv
  clear hv
  clear ha' hxe
  obtain ⟨nb, hnb⟩ : ∃ nb, Hid (normalB x = nb) := ⟨_, rfl⟩
  go_wp2_with fail
  refine (spanValid_calls _ x _ hx.out).mono ?_
  rw [hnb.out]
  rintro e w1 ⟨rfl, hq⟩
  replace hS := Lib.hid (hS.out.below hq hS.out.lt)
  (try replace hx := Lib.hid (hx.out.ext hq))
  (try replace hy := Lib.hid (hy.out.ext hq))
  (try replace hz := Lib.hid (hz.out.ext hq))
  (try replace hn := Lib.hid (hn.out.ext hq))
  (try replace ho := Lib.hid (ho.out.ext hq))
  (try replace hm := Lib.hid (hm.out.ext hq))
  (try replace hd := Lib.hid (hd.out.ext hq))
  (try replace hp := Lib.hid (hp.out.ext hq))
  (try replace hq2 := Lib.hid (hq2.out.ext hq))
  (try replace hrn := Lib.hid (hrn.out.ext hq))
  (try replace hro := Lib.hid (hro.out.ext hq))
  (try replace hrm := Lib.hid (hrm.out.ext hq))
  (try replace hrd := Lib.hid (hrd.out.ext hq))
  (try replace hwhole := Lib.hid (hwhole.out.ext hq))
  (try replace hnone := Lib.hid (hnone.out.ext hq))
  (try replace honce := Lib.hid (honce.out.ext hq))
  (try replace htwice := Lib.hid (htwice.out.ext hq))
  (try replace hs := Lib.hid (hs.out.ext hq))
  (try replace hagain := Lib.hid (hagain.out.ext hq))
  replace hE := Lib.hid (hE.out.trans hq)
  clear hq
  have c0 : w1.cell? ⟨w.heap.size, 0, none⟩ = some (.int .i64 p) := hS.out.cell 0
  have c1 : w1.cell? ⟨w.heap.size, 1, none⟩ = some (.int .i64 q) := hS.out.cell 1
  cases nb with
  | false =>
    have hw : Hid (withinL x (p, q) = false) := Lib.hid (by unfold withinL; rw [hnb.out]; rfl)
    clear hnb
    go_wp2_with fail
    refine (spanWithin_calls _ x p q _ hx.out).mono ?_
    rw [hw.out]
    rintro e w2 ⟨rfl, hq⟩
    (try replace hx := Lib.hid (hx.out.ext hq))
    (try replace hy := Lib.hid (hy.out.ext hq))
    (try replace hz := Lib.hid (hz.out.ext hq))
    (try replace hn := Lib.hid (hn.out.ext hq))
    (try replace ho := Lib.hid (ho.out.ext hq))
    (try replace hm := Lib.hid (hm.out.ext hq))
    (try replace hd := Lib.hid (hd.out.ext hq))
    (try replace hp := Lib.hid (hp.out.ext hq))
    (try replace hq2 := Lib.hid (hq2.out.ext hq))
    (try replace hrn := Lib.hid (hrn.out.ext hq))
    (try replace hro := Lib.hid (hro.out.ext hq))
    (try replace hrm := Lib.hid (hrm.out.ext hq))
    (try replace hrd := Lib.hid (hrd.out.ext hq))
    (try replace hwhole := Lib.hid (hwhole.out.ext hq))
    (try replace hnone := Lib.hid (hnone.out.ext hq))
    (try replace honce := Lib.hid (honce.out.ext hq))
    (try replace htwice := Lib.hid (htwice.out.ext hq))
    (try replace hs := Lib.hid (hs.out.ext hq))
    (try replace hagain := Lib.hid (hagain.out.ext hq))
    replace hE := Lib.hid (hE.out.trans hq)
    clear hq
    go_wp2
    go_ret
    exact ⟨rfl, hE.out⟩
  | true =>
    have hw : Hid (withinL x (p, q) = (decide (p < q) && decide (combL 2 [(p, q)] x = []))) := Lib.hid (within_minus hnb.out)
    have hrx : rangedB x = true := by have := hnb.out; simp only [normalB, Bool.and_eq_true] at this; exact this.2
    obtain ⟨⟨d1, d2⟩, kd⟩ : ∃ r, Hid (combT 2 [(p, q)] x = r) := ⟨_, rfl⟩
    have hcase : d2 = 1 ∨ (d2 = 0 ∧ Hid (combL 2 [(p, q)] x = d1)) := by
      have := kd.out
      cases hr : rangedB [(p, q)] with
      | false => rw [combT_no (by rw [hr]; rfl)] at this; cases this; exact Or.inl rfl
      | true => rw [combT_ok hr hrx] at this; cases this; exact Or.inr ⟨rfl, rfl⟩
    clear hnb hrx
    go_wp2_with fail
    refine (spanMinus_calls _ _ [(p, q)] x _ (lit_spans w1 [(p, q)] (by simp)) (hx.out.ext ((Ext.refl w1).alloc _)) (by simp) (by omega)).mono ?_
    rintro e w2 ⟨v, rfl, hv, hq0⟩
    rw [kd.out] at hv ⊢
    dsimp only at hv ⊢
    obtain ⟨dA, dC, rfl⟩ := hv.read.form
    have hq : Ext w1 w2 := ((Ext.refl w1).alloc _).trans hq0
    replace hS := Lib.hid (hS.out.below hq hS.out.lt)
    (try replace hx := Lib.hid (hx.out.ext hq))
    (try replace hy := Lib.hid (hy.out.ext hq))
    (try replace hz := Lib.hid (hz.out.ext hq))
    (try replace hn := Lib.hid (hn.out.ext hq))
    (try replace ho := Lib.hid (ho.out.ext hq))
    (try replace hm := Lib.hid (hm.out.ext hq))
    (try replace hd := Lib.hid (hd.out.ext hq))
    (try replace hp := Lib.hid (hp.out.ext hq))
    (try replace hq2 := Lib.hid (hq2.out.ext hq))
    (try replace hrn := Lib.hid (hrn.out.ext hq))
    (try replace hro := Lib.hid (hro.out.ext hq))
    (try replace hrm := Lib.hid (hrm.out.ext hq))
    (try replace hrd := Lib.hid (hrd.out.ext hq))
    (try replace hwhole := Lib.hid (hwhole.out.ext hq))
    (try replace hnone := Lib.hid (hnone.out.ext hq))
    (try replace honce := Lib.hid (honce.out.ext hq))
    (try replace htwice := Lib.hid (htwice.out.ext hq))
    (try replace hs := Lib.hid (hs.out.ext hq))
    (try replace hagain := Lib.hid (hagain.out.ext hq))
    replace hE := Lib.hid (hE.out.trans hq)
    clear hq
    replace c0 : w2.cell? ⟨w.heap.size, 0, none⟩ = some (.int .i64 p) := hS.out.cell 0
    replace c1 : w2.cell? ⟨w.heap.size, 1, none⟩ = some (.int .i64 q) := hS.out.cell 1
    clear hv hq0 kd
    rcases hcase with rfl | ⟨rfl, hd⟩
    · go_wp2
      go_ret
      exact ⟨rfl, hE.out⟩
    · rw [hd.out, ← eq_nil_len] at hw
      obtain ⟨wb, hwb⟩ : ∃ wb, Hid (withinL x (p, q) = wb) := ⟨_, rfl⟩
      obtain ⟨zb, hzb⟩ : ∃ zb, Hid (((d1.length : Int) == 0) = zb) := ⟨_, rfl⟩
      rw [hwb.out, hzb.out] at hw
      have hzb' := hzb.out
      have hcl : Hid (∀ W, Ext w2 W → Calls Try.prog 30 #[.slice xA x.length xC, .agg #[.int .i64 p, .int .i64 q]] W fun e w' => e = .returned (.bool wb) ∧ Ext W w') := Lib.hid fun W hW => by
        have := spanWithin_calls _ x p q W (hx.out.ext hW)
        rwa [hwb.out] at this
      have z0 := After.cell c0
      have z1 := After.cell c1
      have hEh := hE
      cases hd2 : decide (p < q) with
      | false =>
        have e1 : wb = false := by rw [hw.out, hd2]; rfl
        subst e1
        clear hd hwb hzb hw
        go_wp2_with fail
        refine wp_region_after (by kernel_rfl) (by kernel_rfl) ?_
        repeat (go_big_quiet_step (exact After.call _ (hcl.out _ (After.ext _))))
        refine wpQuiet_nil ?_
        rintro _ ⟨y, rfl⟩
        have hy := y.ext
        generalize y.world = Y at hy ⊢
        clear z0 z1
        go_wp2
        go_ret
        exact ⟨rfl, hE.out.trans hy⟩
      | true =>
        have e1 : wb = zb := by rw [hw.out, hd2]; rfl
        subst e1
        have e2 : (wb == wb) = true := beq_self_eq_true wb
        clear hd hwb hw
        go_wp2_with fail
        refine wp_region_after (by kernel_rfl) (by kernel_rfl) ?_
        repeat (go_big_quiet_step (exact After.call _ (hcl.out _ (After.ext _))))
        refine wpQuiet_nil ?_
        rintro _ ⟨y, rfl⟩
        have hy := y.ext
        generalize y.world = Y at hy ⊢
        clear z0 z1
        go_wp2
        go_ret
        exact ⟨rfl, hE.out.trans hy⟩
theorem spanWithin_lcalls (va : Value) (a : List (Int × Int)) (vs : Value) (s : Int × Int) (w : World) (ha : Spans w va a) (hs : SpanV w vs s) :
    Calls Try.prog 10 #[va, vs] w fun e w' => e = .returned (.bool true) ∧ Ext w w' := by
  unfold SpanV at hs
  subst hs
  exact spanWithin_law va a s.1 s.2 w ha
end Go.Proofs.Ytfajejelelbmmaa
