/- The law SpanMembership, walked: true for every two lists and every instant. -/
import Derived.Test.YtfajejelelbmmaaLB
namespace Go.Proofs.Ytfajejelelbmmaa
open Go.RowKit

set_option maxHeartbeats 3200000 in
set_option maxRecDepth 100000 in
theorem spanMembership_calls (va : Value) (a : List (Int × Int)) (vb : Value) (b : List (Int × Int)) (t : Int) (_ : -9223372036854775808 ≤ t) (_ : t ≤ 9223372036854775807) (w : World) (ha : Spans w va a) (hb : Spans w vb b) :
    Calls Try.prog 13 #[va, vb, .int .i64 t] w fun e w' => e = .returned (.bool true) ∧ Ext w w' := by
  have ha' := Lib.hid ha
  have hb' := Lib.hid hb
  obtain ⟨aA, aC, rfl⟩ := ha.form
  obtain ⟨bA, bC, rfl⟩ := hb.form
  clear ha hb
  go_enter Try.func13, Try.ntmps13
  go_wp2_with fail
  refine (sanity12_calls w).mono ?_
  rintro e w0 ⟨rfl, hx0⟩
  have hE := Lib.hid hx0
  clear hx0
  go_wp2_with fail
  refine (few_calls _ a _ (ha'.out.ext hE.out)).mono ?_
  rintro e w0 ⟨v, x, rfl, hv, hxe, hxl, rfl⟩
  obtain ⟨xA, xC, rfl⟩ := hv.form
  have hx := Lib.hid hv
  clear hv
  go_wp2_with fail
  refine (few_calls _ b _ (hb'.out.ext hE.out)).mono ?_
  rintro e w0 ⟨v, y, rfl, hv, hye, hyl, rfl⟩
  obtain ⟨yA, yC, rfl⟩ := hv.form
  have hy := Lib.hid hv
  clear hv
  clear ha' hb' hxe hye
  obtain ⟨⟨n1, n2⟩, kn⟩ : ∃ r, Hid (combT 0 x [] = r) := ⟨_, rfl⟩
  obtain ⟨⟨o1, o2⟩, ko⟩ : ∃ r, Hid (combT 0 x y = r) := ⟨_, rfl⟩
  obtain ⟨⟨m1, m2⟩, km⟩ : ∃ r, Hid (combT 1 x y = r) := ⟨_, rfl⟩
  obtain ⟨⟨d1, d2⟩, kd⟩ : ∃ r, Hid (combT 2 x y = r) := ⟨_, rfl⟩
  obtain ⟨rx, hrx⟩ : ∃ r, Hid (rangedB x = r) := ⟨_, rfl⟩
  obtain ⟨ry, hry⟩ : ∃ r, Hid (rangedB y = r) := ⟨_, rfl⟩
  obtain ⟨p, hp0⟩ : ∃ p, Hid (hasB x t = p) := ⟨_, rfl⟩
  obtain ⟨r, hr0⟩ : ∃ r, Hid (hasB y t = r) := ⟨_, rfl⟩
  have hcase : (rx = false ∧ n2 = 1 ∧ o2 = 1 ∧ m2 = 1 ∧ d2 = 1) ∨ (rx = true ∧ ry = false ∧ n2 = 0 ∧ o2 = 1 ∧ m2 = 1 ∧ d2 = 1 ∧ Hid (hasB n1 t = p)) ∨ (rx = true ∧ ry = true ∧ n2 = 0 ∧ o2 = 0 ∧ m2 = 0 ∧ d2 = 0 ∧ Hid (hasB n1 t = p) ∧ Hid (hasB o1 t = (p || r)) ∧ Hid (hasB m1 t = (p && r)) ∧ Hid (hasB d1 t = (p && !r))) := by
    have a1 := kn.out
    have a2 := ko.out
    have a3 := km.out
    have a4 := kd.out
    cases rx with
    | false =>
      have hh := hrx.out
      rw [combT_no (by rw [hh]; rfl)] at a1 a2 a3 a4
      cases a1; cases a2; cases a3; cases a4
      exact Or.inl ⟨rfl, rfl, rfl, rfl, rfl⟩
    | true =>
      have hn : hasB (combL 0 x []) t = p := by rw [comb_has, hp0.out, hasB_nil]; cases p <;> rfl
      cases ry with
      | false =>
        have hh := hry.out
        rw [combT_ok hrx.out rfl] at a1
        rw [combT_no (by rw [hh, Bool.and_false])] at a2 a3 a4
        cases a1; cases a2; cases a3; cases a4
        exact Or.inr (Or.inl ⟨rfl, rfl, rfl, rfl, rfl, rfl, hn⟩)
      | true =>
        rw [combT_ok hrx.out rfl] at a1
        rw [combT_ok hrx.out hry.out] at a2 a3 a4
        cases a1; cases a2; cases a3; cases a4
        refine Or.inr (Or.inr ⟨rfl, rfl, rfl, rfl, rfl, rfl, hn, ?_, ?_, ?_⟩)
        · show _ = _; rw [comb_has, hp0.out, hr0.out]; rfl
        · show _ = _; rw [comb_has, hp0.out, hr0.out]; rfl
        · show _ = _; rw [comb_has, hp0.out, hr0.out]; rfl
  go_wp2_with fail
  refine (spanNorm_calls _ x _ hx.out (by omega)).mono ?_
  rintro e w1 ⟨v, rfl, hv, hq⟩
  rw [kn.out] at hv ⊢
  dsimp only at hv ⊢
  obtain ⟨nA, nC, rfl⟩ := hv.read.form
  (try replace hx := Lib.hid (hx.out.ext hq))
  (try replace hy := Lib.hid (hy.out.ext hq))
  (try replace hz := Lib.hid (hz.out.ext hq))
  (try replace hn := Lib.hid (hn.out.ext hq))
  (try replace ho := Lib.hid (ho.out.ext hq))
  (try replace hm := Lib.hid (hm.out.ext hq))
  (try replace hd := Lib.hid (hd.out.ext hq))
  (try replace hp := Lib.hid (hp.out.ext hq))
  (try replace hq2 := Lib.hid (hq2.out.ext hq))
  (try replace hrn := Lib.hid (hrn.out.ext hq))
  (try replace hro := Lib.hid (hro.out.ext hq))
  (try replace hrm := Lib.hid (hrm.out.ext hq))
  (try replace hrd := Lib.hid (hrd.out.ext hq))
  (try replace hwhole := Lib.hid (hwhole.out.ext hq))
  (try replace hnone := Lib.hid (hnone.out.ext hq))
  (try replace honce := Lib.hid (honce.out.ext hq))
  (try replace htwice := Lib.hid (htwice.out.ext hq))
  (try replace hs := Lib.hid (hs.out.ext hq))
  (try replace hagain := Lib.hid (hagain.out.ext hq))
  replace hE := Lib.hid (hE.out.trans hq)
  clear hq
  have hn := Lib.hid hv.read
  clear hv
  go_wp2_with fail
  refine (spanUnion_calls _ _ x y _ hx.out hy.out (by omega) (by omega)).mono ?_
  rintro e w2 ⟨v, rfl, hv, hq⟩
  rw [ko.out] at hv ⊢
  dsimp only at hv ⊢
  obtain ⟨oA, oC, rfl⟩ := hv.read.form
  (try replace hx := Lib.hid (hx.out.ext hq))
  (try replace hy := Lib.hid (hy.out.ext hq))
  (try replace hz := Lib.hid (hz.out.ext hq))
  (try replace hn := Lib.hid (hn.out.ext hq))
  (try replace ho := Lib.hid (ho.out.ext hq))
  (try replace hm := Lib.hid (hm.out.ext hq))
  (try replace hd := Lib.hid (hd.out.ext hq))
  (try replace hp := Lib.hid (hp.out.ext hq))
  (try replace hq2 := Lib.hid (hq2.out.ext hq))
  (try replace hrn := Lib.hid (hrn.out.ext hq))
  (try replace hro := Lib.hid (hro.out.ext hq))
  (try replace hrm := Lib.hid (hrm.out.ext hq))
  (try replace hrd := Lib.hid (hrd.out.ext hq))
  (try replace hwhole := Lib.hid (hwhole.out.ext hq))
  (try replace hnone := Lib.hid (hnone.out.ext hq))
  (try replace honce := Lib.hid (honce.out.ext hq))
  (try replace htwice := Lib.hid (htwice.out.ext hq))
  (try replace hs := Lib.hid (hs.out.ext hq))
  (try replace hagain := Lib.hid (hagain.out.ext hq))
  replace hE := Lib.hid (hE.out.trans hq)
  clear hq
  have ho := Lib.hid hv.read
  clear hv
  go_wp2_with fail
  refine (spanMeet_calls _ _ x y _ hx.out hy.out (by omega) (by omega)).mono ?_
  rintro e w3 ⟨v, rfl, hv, hq⟩
  rw [km.out] at hv ⊢
  dsimp only at hv ⊢
  obtain ⟨mA, mC, rfl⟩ := hv.read.form
  (try replace hx := Lib.hid (hx.out.ext hq))
  (try replace hy := Lib.hid (hy.out.ext hq))
  (try replace hz := Lib.hid (hz.out.ext hq))
  (try replace hn := Lib.hid (hn.out.ext hq))
  (try replace ho := Lib.hid (ho.out.ext hq))
  (try replace hm := Lib.hid (hm.out.ext hq))
  (try replace hd := Lib.hid (hd.out.ext hq))
  (try replace hp := Lib.hid (hp.out.ext hq))
  (try replace hq2 := Lib.hid (hq2.out.ext hq))
  (try replace hrn := Lib.hid (hrn.out.ext hq))
  (try replace hro := Lib.hid (hro.out.ext hq))
  (try replace hrm := Lib.hid (hrm.out.ext hq))
  (try replace hrd := Lib.hid (hrd.out.ext hq))
  (try replace hwhole := Lib.hid (hwhole.out.ext hq))
  (try replace hnone := Lib.hid (hnone.out.ext hq))
  (try replace honce := Lib.hid (honce.out.ext hq))
  (try replace htwice := Lib.hid (htwice.out.ext hq))
  (try replace hs := Lib.hid (hs.out.ext hq))
  (try replace hagain := Lib.hid (hagain.out.ext hq))
  replace hE := Lib.hid (hE.out.trans hq)
  clear hq
  have hm := Lib.hid hv.read
  clear hv
  go_wp2_with fail
  refine (spanMinus_calls _ _ x y _ hx.out hy.out (by omega) (by omega)).mono ?_
  rintro e w4 ⟨v, rfl, hv, hq⟩
  rw [kd.out] at hv ⊢
  dsimp only at hv ⊢
  obtain ⟨dA, dC, rfl⟩ := hv.read.form
  (try replace hx := Lib.hid (hx.out.ext hq))
  (try replace hy := Lib.hid (hy.out.ext hq))
  (try replace hz := Lib.hid (hz.out.ext hq))
  (try replace hn := Lib.hid (hn.out.ext hq))
  (try replace ho := Lib.hid (ho.out.ext hq))
  (try replace hm := Lib.hid (hm.out.ext hq))
  (try replace hd := Lib.hid (hd.out.ext hq))
  (try replace hp := Lib.hid (hp.out.ext hq))
  (try replace hq2 := Lib.hid (hq2.out.ext hq))
  (try replace hrn := Lib.hid (hrn.out.ext hq))
  (try replace hro := Lib.hid (hro.out.ext hq))
  (try replace hrm := Lib.hid (hrm.out.ext hq))
  (try replace hrd := Lib.hid (hrd.out.ext hq))
  (try replace hwhole := Lib.hid (hwhole.out.ext hq))
  (try replace hnone := Lib.hid (hnone.out.ext hq))
  (try replace honce := Lib.hid (honce.out.ext hq))
  (try replace htwice := Lib.hid (htwice.out.ext hq))
  (try replace hs := Lib.hid (hs.out.ext hq))
  (try replace hagain := Lib.hid (hagain.out.ext hq))
  replace hE := Lib.hid (hE.out.trans hq)
  clear hq
  have hd := Lib.hid hv.read
  clear hv
  go_wp2_with fail
  refine (rInRange_calls _ x _ hx.out).mono ?_
  rw [hrx.out]
  rintro e w5 ⟨rfl, hq⟩
  (try replace hx := Lib.hid (hx.out.ext hq))
  (try replace hy := Lib.hid (hy.out.ext hq))
  (try replace hz := Lib.hid (hz.out.ext hq))
  (try replace hn := Lib.hid (hn.out.ext hq))
  (try replace ho := Lib.hid (ho.out.ext hq))
  (try replace hm := Lib.hid (hm.out.ext hq))
  (try replace hd := Lib.hid (hd.out.ext hq))
  (try replace hp := Lib.hid (hp.out.ext hq))
  (try replace hq2 := Lib.hid (hq2.out.ext hq))
  (try replace hrn := Lib.hid (hrn.out.ext hq))
  (try replace hro := Lib.hid (hro.out.ext hq))
  (try replace hrm := Lib.hid (hrm.out.ext hq))
  (try replace hrd := Lib.hid (hrd.out.ext hq))
  (try replace hwhole := Lib.hid (hwhole.out.ext hq))
  (try replace hnone := Lib.hid (hnone.out.ext hq))
  (try replace honce := Lib.hid (honce.out.ext hq))
  (try replace htwice := Lib.hid (htwice.out.ext hq))
  (try replace hs := Lib.hid (hs.out.ext hq))
  (try replace hagain := Lib.hid (hagain.out.ext hq))
  replace hE := Lib.hid (hE.out.trans hq)
  clear hq
  go_wp2_with fail
  refine (rInRange_calls _ y _ hy.out).mono ?_
  rw [hry.out]
  rintro e w6 ⟨rfl, hq⟩
  (try replace hx := Lib.hid (hx.out.ext hq))
  (try replace hy := Lib.hid (hy.out.ext hq))
  (try replace hz := Lib.hid (hz.out.ext hq))
  (try replace hn := Lib.hid (hn.out.ext hq))
  (try replace ho := Lib.hid (ho.out.ext hq))
  (try replace hm := Lib.hid (hm.out.ext hq))
  (try replace hd := Lib.hid (hd.out.ext hq))
  (try replace hp := Lib.hid (hp.out.ext hq))
  (try replace hq2 := Lib.hid (hq2.out.ext hq))
  (try replace hrn := Lib.hid (hrn.out.ext hq))
  (try replace hro := Lib.hid (hro.out.ext hq))
  (try replace hrm := Lib.hid (hrm.out.ext hq))
  (try replace hrd := Lib.hid (hrd.out.ext hq))
  (try replace hwhole := Lib.hid (hwhole.out.ext hq))
  (try replace hnone := Lib.hid (hnone.out.ext hq))
  (try replace honce := Lib.hid (honce.out.ext hq))
  (try replace htwice := Lib.hid (htwice.out.ext hq))
  (try replace hs := Lib.hid (hs.out.ext hq))
  (try replace hagain := Lib.hid (hagain.out.ext hq))
  replace hE := Lib.hid (hE.out.trans hq)
  clear hq
  clear kn ko km kd hrx hry
  rcases hcase with ⟨rfl, rfl, rfl, rfl, rfl⟩ | ⟨rfl, rfl, rfl, rfl, rfl, rfl, hn1⟩ | ⟨rfl, rfl, rfl, rfl, rfl, rfl, hn1, ho1, hm1, hd1⟩
  · skip
    go_wp2_with fail
    refine (rHas_calls _ x t _ hx.out).mono ?_
    rw [hp0.out]
    rintro e w7 ⟨rfl, hq⟩
    (try replace hx := Lib.hid (hx.out.ext hq))
    (try replace hy := Lib.hid (hy.out.ext hq))
    (try replace hz := Lib.hid (hz.out.ext hq))
    (try replace hn := Lib.hid (hn.out.ext hq))
    (try replace ho := Lib.hid (ho.out.ext hq))
    (try replace hm := Lib.hid (hm.out.ext hq))
    (try replace hd := Lib.hid (hd.out.ext hq))
    (try replace hp := Lib.hid (hp.out.ext hq))
    (try replace hq2 := Lib.hid (hq2.out.ext hq))
    (try replace hrn := Lib.hid (hrn.out.ext hq))
    (try replace hro := Lib.hid (hro.out.ext hq))
    (try replace hrm := Lib.hid (hrm.out.ext hq))
    (try replace hrd := Lib.hid (hrd.out.ext hq))
    (try replace hwhole := Lib.hid (hwhole.out.ext hq))
    (try replace hnone := Lib.hid (hnone.out.ext hq))
    (try replace honce := Lib.hid (honce.out.ext hq))
    (try replace htwice := Lib.hid (htwice.out.ext hq))
    (try replace hs := Lib.hid (hs.out.ext hq))
    (try replace hagain := Lib.hid (hagain.out.ext hq))
    replace hE := Lib.hid (hE.out.trans hq)
    clear hq
    go_wp2_with fail
    refine (rHas_calls _ y t _ hy.out).mono ?_
    rw [hr0.out]
    rintro e w8 ⟨rfl, hq⟩
    (try replace hx := Lib.hid (hx.out.ext hq))
    (try replace hy := Lib.hid (hy.out.ext hq))
    (try replace hz := Lib.hid (hz.out.ext hq))
    (try replace hn := Lib.hid (hn.out.ext hq))
    (try replace ho := Lib.hid (ho.out.ext hq))
    (try replace hm := Lib.hid (hm.out.ext hq))
    (try replace hd := Lib.hid (hd.out.ext hq))
    (try replace hp := Lib.hid (hp.out.ext hq))
    (try replace hq2 := Lib.hid (hq2.out.ext hq))
    (try replace hrn := Lib.hid (hrn.out.ext hq))
    (try replace hro := Lib.hid (hro.out.ext hq))
    (try replace hrm := Lib.hid (hrm.out.ext hq))
    (try replace hrd := Lib.hid (hrd.out.ext hq))
    (try replace hwhole := Lib.hid (hwhole.out.ext hq))
    (try replace hnone := Lib.hid (hnone.out.ext hq))
    (try replace honce := Lib.hid (honce.out.ext hq))
    (try replace htwice := Lib.hid (htwice.out.ext hq))
    (try replace hs := Lib.hid (hs.out.ext hq))
    (try replace hagain := Lib.hid (hagain.out.ext hq))
    replace hE := Lib.hid (hE.out.trans hq)
    clear hq
    have e1 : (p != p) = false := by cases p <;> rfl
    go_wp2_with fail
    refine (spanHas_calls _ x t _ hx.out).mono ?_
    rw [hp0.out]
    rintro e w9 ⟨rfl, hq⟩
    (try replace hx := Lib.hid (hx.out.ext hq))
    (try replace hy := Lib.hid (hy.out.ext hq))
    (try replace hz := Lib.hid (hz.out.ext hq))
    (try replace hn := Lib.hid (hn.out.ext hq))
    (try replace ho := Lib.hid (ho.out.ext hq))
    (try replace hm := Lib.hid (hm.out.ext hq))
    (try replace hd := Lib.hid (hd.out.ext hq))
    (try replace hp := Lib.hid (hp.out.ext hq))
    (try replace hq2 := Lib.hid (hq2.out.ext hq))
    (try replace hrn := Lib.hid (hrn.out.ext hq))
    (try replace hro := Lib.hid (hro.out.ext hq))
    (try replace hrm := Lib.hid (hrm.out.ext hq))
    (try replace hrd := Lib.hid (hrd.out.ext hq))
    (try replace hwhole := Lib.hid (hwhole.out.ext hq))
    (try replace hnone := Lib.hid (hnone.out.ext hq))
    (try replace honce := Lib.hid (honce.out.ext hq))
    (try replace htwice := Lib.hid (htwice.out.ext hq))
    (try replace hs := Lib.hid (hs.out.ext hq))
    (try replace hagain := Lib.hid (hagain.out.ext hq))
    replace hE := Lib.hid (hE.out.trans hq)
    clear hq
    go_wp2
    go_ret
    exact ⟨rfl, hE.out⟩
  · skip
    go_wp2_with fail
    refine (rHas_calls _ x t _ hx.out).mono ?_
    rw [hp0.out]
    rintro e w7 ⟨rfl, hq⟩
    (try replace hx := Lib.hid (hx.out.ext hq))
    (try replace hy := Lib.hid (hy.out.ext hq))
    (try replace hz := Lib.hid (hz.out.ext hq))
    (try replace hn := Lib.hid (hn.out.ext hq))
    (try replace ho := Lib.hid (ho.out.ext hq))
    (try replace hm := Lib.hid (hm.out.ext hq))
    (try replace hd := Lib.hid (hd.out.ext hq))
    (try replace hp := Lib.hid (hp.out.ext hq))
    (try replace hq2 := Lib.hid (hq2.out.ext hq))
    (try replace hrn := Lib.hid (hrn.out.ext hq))
    (try replace hro := Lib.hid (hro.out.ext hq))
    (try replace hrm := Lib.hid (hrm.out.ext hq))
    (try replace hrd := Lib.hid (hrd.out.ext hq))
    (try replace hwhole := Lib.hid (hwhole.out.ext hq))
    (try replace hnone := Lib.hid (hnone.out.ext hq))
    (try replace honce := Lib.hid (honce.out.ext hq))
    (try replace htwice := Lib.hid (htwice.out.ext hq))
    (try replace hs := Lib.hid (hs.out.ext hq))
    (try replace hagain := Lib.hid (hagain.out.ext hq))
    replace hE := Lib.hid (hE.out.trans hq)
    clear hq
    go_wp2_with fail
    refine (rHas_calls _ y t _ hy.out).mono ?_
    rw [hr0.out]
    rintro e w8 ⟨rfl, hq⟩
    (try replace hx := Lib.hid (hx.out.ext hq))
    (try replace hy := Lib.hid (hy.out.ext hq))
    (try replace hz := Lib.hid (hz.out.ext hq))
    (try replace hn := Lib.hid (hn.out.ext hq))
    (try replace ho := Lib.hid (ho.out.ext hq))
    (try replace hm := Lib.hid (hm.out.ext hq))
    (try replace hd := Lib.hid (hd.out.ext hq))
    (try replace hp := Lib.hid (hp.out.ext hq))
    (try replace hq2 := Lib.hid (hq2.out.ext hq))
    (try replace hrn := Lib.hid (hrn.out.ext hq))
    (try replace hro := Lib.hid (hro.out.ext hq))
    (try replace hrm := Lib.hid (hrm.out.ext hq))
    (try replace hrd := Lib.hid (hrd.out.ext hq))
    (try replace hwhole := Lib.hid (hwhole.out.ext hq))
    (try replace hnone := Lib.hid (hnone.out.ext hq))
    (try replace honce := Lib.hid (honce.out.ext hq))
    (try replace htwice := Lib.hid (htwice.out.ext hq))
    (try replace hs := Lib.hid (hs.out.ext hq))
    (try replace hagain := Lib.hid (hagain.out.ext hq))
    replace hE := Lib.hid (hE.out.trans hq)
    clear hq
    have e1 : (p != p) = false := by cases p <;> rfl
    go_wp2_with fail
    refine (spanHas_calls _ x t _ hx.out).mono ?_
    rw [hp0.out]
    rintro e w9 ⟨rfl, hq⟩
    (try replace hx := Lib.hid (hx.out.ext hq))
    (try replace hy := Lib.hid (hy.out.ext hq))
    (try replace hz := Lib.hid (hz.out.ext hq))
    (try replace hn := Lib.hid (hn.out.ext hq))
    (try replace ho := Lib.hid (ho.out.ext hq))
    (try replace hm := Lib.hid (hm.out.ext hq))
    (try replace hd := Lib.hid (hd.out.ext hq))
    (try replace hp := Lib.hid (hp.out.ext hq))
    (try replace hq2 := Lib.hid (hq2.out.ext hq))
    (try replace hrn := Lib.hid (hrn.out.ext hq))
    (try replace hro := Lib.hid (hro.out.ext hq))
    (try replace hrm := Lib.hid (hrm.out.ext hq))
    (try replace hrd := Lib.hid (hrd.out.ext hq))
    (try replace hwhole := Lib.hid (hwhole.out.ext hq))
    (try replace hnone := Lib.hid (hnone.out.ext hq))
    (try replace honce := Lib.hid (honce.out.ext hq))
    (try replace htwice := Lib.hid (htwice.out.ext hq))
    (try replace hs := Lib.hid (hs.out.ext hq))
    (try replace hagain := Lib.hid (hagain.out.ext hq))
    replace hE := Lib.hid (hE.out.trans hq)
    clear hq
    go_wp2_with fail
    refine (spanHas_calls _ n1 t _ hn.out).mono ?_
    rw [hn1.out]
    rintro e w10 ⟨rfl, hq⟩
    (try replace hx := Lib.hid (hx.out.ext hq))
    (try replace hy := Lib.hid (hy.out.ext hq))
    (try replace hz := Lib.hid (hz.out.ext hq))
    (try replace hn := Lib.hid (hn.out.ext hq))
    (try replace ho := Lib.hid (ho.out.ext hq))
    (try replace hm := Lib.hid (hm.out.ext hq))
    (try replace hd := Lib.hid (hd.out.ext hq))
    (try replace hp := Lib.hid (hp.out.ext hq))
    (try replace hq2 := Lib.hid (hq2.out.ext hq))
    (try replace hrn := Lib.hid (hrn.out.ext hq))
    (try replace hro := Lib.hid (hro.out.ext hq))
    (try replace hrm := Lib.hid (hrm.out.ext hq))
    (try replace hrd := Lib.hid (hrd.out.ext hq))
    (try replace hwhole := Lib.hid (hwhole.out.ext hq))
    (try replace hnone := Lib.hid (hnone.out.ext hq))
    (try replace honce := Lib.hid (honce.out.ext hq))
    (try replace htwice := Lib.hid (htwice.out.ext hq))
    (try replace hs := Lib.hid (hs.out.ext hq))
    (try replace hagain := Lib.hid (hagain.out.ext hq))
    replace hE := Lib.hid (hE.out.trans hq)
    clear hq
    go_wp2
    go_ret
    exact ⟨rfl, hE.out⟩
  · skip
    go_wp2_with fail
    refine (rHas_calls _ x t _ hx.out).mono ?_
    rw [hp0.out]
    rintro e w7 ⟨rfl, hq⟩
    (try replace hx := Lib.hid (hx.out.ext hq))
    (try replace hy := Lib.hid (hy.out.ext hq))
    (try replace hz := Lib.hid (hz.out.ext hq))
    (try replace hn := Lib.hid (hn.out.ext hq))
    (try replace ho := Lib.hid (ho.out.ext hq))
    (try replace hm := Lib.hid (hm.out.ext hq))
    (try replace hd := Lib.hid (hd.out.ext hq))
    (try replace hp := Lib.hid (hp.out.ext hq))
    (try replace hq2 := Lib.hid (hq2.out.ext hq))
    (try replace hrn := Lib.hid (hrn.out.ext hq))
    (try replace hro := Lib.hid (hro.out.ext hq))
    (try replace hrm := Lib.hid (hrm.out.ext hq))
    (try replace hrd := Lib.hid (hrd.out.ext hq))
    (try replace hwhole := Lib.hid (hwhole.out.ext hq))
    (try replace hnone := Lib.hid (hnone.out.ext hq))
    (try replace honce := Lib.hid (honce.out.ext hq))
    (try replace htwice := Lib.hid (htwice.out.ext hq))
    (try replace hs := Lib.hid (hs.out.ext hq))
    (try replace hagain := Lib.hid (hagain.out.ext hq))
    replace hE := Lib.hid (hE.out.trans hq)
    clear hq
    go_wp2_with fail
    refine (rHas_calls _ y t _ hy.out).mono ?_
    rw [hr0.out]
    rintro e w8 ⟨rfl, hq⟩
    (try replace hx := Lib.hid (hx.out.ext hq))
    (try replace hy := Lib.hid (hy.out.ext hq))
    (try replace hz := Lib.hid (hz.out.ext hq))
    (try replace hn := Lib.hid (hn.out.ext hq))
    (try replace ho := Lib.hid (ho.out.ext hq))
    (try replace hm := Lib.hid (hm.out.ext hq))
    (try replace hd := Lib.hid (hd.out.ext hq))
    (try replace hp := Lib.hid (hp.out.ext hq))
    (try replace hq2 := Lib.hid (hq2.out.ext hq))
    (try replace hrn := Lib.hid (hrn.out.ext hq))
    (try replace hro := Lib.hid (hro.out.ext hq))
    (try replace hrm := Lib.hid (hrm.out.ext hq))
    (try replace hrd := Lib.hid (hrd.out.ext hq))
    (try replace hwhole := Lib.hid (hwhole.out.ext hq))
    (try replace hnone := Lib.hid (hnone.out.ext hq))
    (try replace honce := Lib.hid (honce.out.ext hq))
    (try replace htwice := Lib.hid (htwice.out.ext hq))
    (try replace hs := Lib.hid (hs.out.ext hq))
    (try replace hagain := Lib.hid (hagain.out.ext hq))
    replace hE := Lib.hid (hE.out.trans hq)
    clear hq
    have e1 : (p != p) = false := by cases p <;> rfl
    go_wp2_with fail
    refine (spanHas_calls _ x t _ hx.out).mono ?_
    rw [hp0.out]
    rintro e w9 ⟨rfl, hq⟩
    (try replace hx := Lib.hid (hx.out.ext hq))
    (try replace hy := Lib.hid (hy.out.ext hq))
    (try replace hz := Lib.hid (hz.out.ext hq))
    (try replace hn := Lib.hid (hn.out.ext hq))
    (try replace ho := Lib.hid (ho.out.ext hq))
    (try replace hm := Lib.hid (hm.out.ext hq))
    (try replace hd := Lib.hid (hd.out.ext hq))
    (try replace hp := Lib.hid (hp.out.ext hq))
    (try replace hq2 := Lib.hid (hq2.out.ext hq))
    (try replace hrn := Lib.hid (hrn.out.ext hq))
    (try replace hro := Lib.hid (hro.out.ext hq))
    (try replace hrm := Lib.hid (hrm.out.ext hq))
    (try replace hrd := Lib.hid (hrd.out.ext hq))
    (try replace hwhole := Lib.hid (hwhole.out.ext hq))
    (try replace hnone := Lib.hid (hnone.out.ext hq))
    (try replace honce := Lib.hid (honce.out.ext hq))
    (try replace htwice := Lib.hid (htwice.out.ext hq))
    (try replace hs := Lib.hid (hs.out.ext hq))
    (try replace hagain := Lib.hid (hagain.out.ext hq))
    replace hE := Lib.hid (hE.out.trans hq)
    clear hq
    go_wp2_with fail
    refine (spanHas_calls _ n1 t _ hn.out).mono ?_
    rw [hn1.out]
    rintro e w10 ⟨rfl, hq⟩
    (try replace hx := Lib.hid (hx.out.ext hq))
    (try replace hy := Lib.hid (hy.out.ext hq))
    (try replace hz := Lib.hid (hz.out.ext hq))
    (try replace hn := Lib.hid (hn.out.ext hq))
    (try replace ho := Lib.hid (ho.out.ext hq))
    (try replace hm := Lib.hid (hm.out.ext hq))
    (try replace hd := Lib.hid (hd.out.ext hq))
    (try replace hp := Lib.hid (hp.out.ext hq))
    (try replace hq2 := Lib.hid (hq2.out.ext hq))
    (try replace hrn := Lib.hid (hrn.out.ext hq))
    (try replace hro := Lib.hid (hro.out.ext hq))
    (try replace hrm := Lib.hid (hrm.out.ext hq))
    (try replace hrd := Lib.hid (hrd.out.ext hq))
    (try replace hwhole := Lib.hid (hwhole.out.ext hq))
    (try replace hnone := Lib.hid (hnone.out.ext hq))
    (try replace honce := Lib.hid (honce.out.ext hq))
    (try replace htwice := Lib.hid (htwice.out.ext hq))
    (try replace hs := Lib.hid (hs.out.ext hq))
    (try replace hagain := Lib.hid (hagain.out.ext hq))
    replace hE := Lib.hid (hE.out.trans hq)
    clear hq
    cases p with
    | true =>
      cases r with
      | true =>
        go_wp2_with fail
        refine (spanHas_calls _ o1 t _ ho.out).mono ?_
        rw [ho1.out]
        rintro e w11 ⟨rfl, hq⟩
        (try replace hx := Lib.hid (hx.out.ext hq))
        (try replace hy := Lib.hid (hy.out.ext hq))
        (try replace hz := Lib.hid (hz.out.ext hq))
        (try replace hn := Lib.hid (hn.out.ext hq))
        (try replace ho := Lib.hid (ho.out.ext hq))
        (try replace hm := Lib.hid (hm.out.ext hq))
        (try replace hd := Lib.hid (hd.out.ext hq))
        (try replace hp := Lib.hid (hp.out.ext hq))
        (try replace hq2 := Lib.hid (hq2.out.ext hq))
        (try replace hrn := Lib.hid (hrn.out.ext hq))
        (try replace hro := Lib.hid (hro.out.ext hq))
        (try replace hrm := Lib.hid (hrm.out.ext hq))
        (try replace hrd := Lib.hid (hrd.out.ext hq))
        (try replace hwhole := Lib.hid (hwhole.out.ext hq))
        (try replace hnone := Lib.hid (hnone.out.ext hq))
        (try replace honce := Lib.hid (honce.out.ext hq))
        (try replace htwice := Lib.hid (htwice.out.ext hq))
        (try replace hs := Lib.hid (hs.out.ext hq))
        (try replace hagain := Lib.hid (hagain.out.ext hq))
        replace hE := Lib.hid (hE.out.trans hq)
        clear hq
        go_wp2_with fail
        refine (spanHas_calls _ m1 t _ hm.out).mono ?_
        rw [hm1.out]
        rintro e w12 ⟨rfl, hq⟩
        (try replace hx := Lib.hid (hx.out.ext hq))
        (try replace hy := Lib.hid (hy.out.ext hq))
        (try replace hz := Lib.hid (hz.out.ext hq))
        (try replace hn := Lib.hid (hn.out.ext hq))
        (try replace ho := Lib.hid (ho.out.ext hq))
        (try replace hm := Lib.hid (hm.out.ext hq))
        (try replace hd := Lib.hid (hd.out.ext hq))
        (try replace hp := Lib.hid (hp.out.ext hq))
        (try replace hq2 := Lib.hid (hq2.out.ext hq))
        (try replace hrn := Lib.hid (hrn.out.ext hq))
        (try replace hro := Lib.hid (hro.out.ext hq))
        (try replace hrm := Lib.hid (hrm.out.ext hq))
        (try replace hrd := Lib.hid (hrd.out.ext hq))
        (try replace hwhole := Lib.hid (hwhole.out.ext hq))
        (try replace hnone := Lib.hid (hnone.out.ext hq))
        (try replace honce := Lib.hid (honce.out.ext hq))
        (try replace htwice := Lib.hid (htwice.out.ext hq))
        (try replace hs := Lib.hid (hs.out.ext hq))
        (try replace hagain := Lib.hid (hagain.out.ext hq))
        replace hE := Lib.hid (hE.out.trans hq)
        clear hq
        go_wp2_with fail
        refine (spanHas_calls _ d1 t _ hd.out).mono ?_
        rw [hd1.out]
        rintro e w13 ⟨rfl, hq⟩
        (try replace hx := Lib.hid (hx.out.ext hq))
        (try replace hy := Lib.hid (hy.out.ext hq))
        (try replace hz := Lib.hid (hz.out.ext hq))
        (try replace hn := Lib.hid (hn.out.ext hq))
        (try replace ho := Lib.hid (ho.out.ext hq))
        (try replace hm := Lib.hid (hm.out.ext hq))
        (try replace hd := Lib.hid (hd.out.ext hq))
        (try replace hp := Lib.hid (hp.out.ext hq))
        (try replace hq2 := Lib.hid (hq2.out.ext hq))
        (try replace hrn := Lib.hid (hrn.out.ext hq))
        (try replace hro := Lib.hid (hro.out.ext hq))
        (try replace hrm := Lib.hid (hrm.out.ext hq))
        (try replace hrd := Lib.hid (hrd.out.ext hq))
        (try replace hwhole := Lib.hid (hwhole.out.ext hq))
        (try replace hnone := Lib.hid (hnone.out.ext hq))
        (try replace honce := Lib.hid (honce.out.ext hq))
        (try replace htwice := Lib.hid (htwice.out.ext hq))
        (try replace hs := Lib.hid (hs.out.ext hq))
        (try replace hagain := Lib.hid (hagain.out.ext hq))
        replace hE := Lib.hid (hE.out.trans hq)
        clear hq
        go_wp2
        go_ret
        exact ⟨rfl, hE.out⟩
      | false =>
        go_wp2_with fail
        refine (spanHas_calls _ o1 t _ ho.out).mono ?_
        rw [ho1.out]
        rintro e w11 ⟨rfl, hq⟩
        (try replace hx := Lib.hid (hx.out.ext hq))
        (try replace hy := Lib.hid (hy.out.ext hq))
        (try replace hz := Lib.hid (hz.out.ext hq))
        (try replace hn := Lib.hid (hn.out.ext hq))
        (try replace ho := Lib.hid (ho.out.ext hq))
        (try replace hm := Lib.hid (hm.out.ext hq))
        (try replace hd := Lib.hid (hd.out.ext hq))
        (try replace hp := Lib.hid (hp.out.ext hq))
        (try replace hq2 := Lib.hid (hq2.out.ext hq))
        (try replace hrn := Lib.hid (hrn.out.ext hq))
        (try replace hro := Lib.hid (hro.out.ext hq))
        (try replace hrm := Lib.hid (hrm.out.ext hq))
        (try replace hrd := Lib.hid (hrd.out.ext hq))
        (try replace hwhole := Lib.hid (hwhole.out.ext hq))
        (try replace hnone := Lib.hid (hnone.out.ext hq))
        (try replace honce := Lib.hid (honce.out.ext hq))
        (try replace htwice := Lib.hid (htwice.out.ext hq))
        (try replace hs := Lib.hid (hs.out.ext hq))
        (try replace hagain := Lib.hid (hagain.out.ext hq))
        replace hE := Lib.hid (hE.out.trans hq)
        clear hq
        go_wp2_with fail
        refine (spanHas_calls _ m1 t _ hm.out).mono ?_
        rw [hm1.out]
        rintro e w12 ⟨rfl, hq⟩
        (try replace hx := Lib.hid (hx.out.ext hq))
        (try replace hy := Lib.hid (hy.out.ext hq))
        (try replace hz := Lib.hid (hz.out.ext hq))
        (try replace hn := Lib.hid (hn.out.ext hq))
        (try replace ho := Lib.hid (ho.out.ext hq))
        (try replace hm := Lib.hid (hm.out.ext hq))
        (try replace hd := Lib.hid (hd.out.ext hq))
        (try replace hp := Lib.hid (hp.out.ext hq))
        (try replace hq2 := Lib.hid (hq2.out.ext hq))
        (try replace hrn := Lib.hid (hrn.out.ext hq))
        (try replace hro := Lib.hid (hro.out.ext hq))
        (try replace hrm := Lib.hid (hrm.out.ext hq))
        (try replace hrd := Lib.hid (hrd.out.ext hq))
        (try replace hwhole := Lib.hid (hwhole.out.ext hq))
        (try replace hnone := Lib.hid (hnone.out.ext hq))
        (try replace honce := Lib.hid (honce.out.ext hq))
        (try replace htwice := Lib.hid (htwice.out.ext hq))
        (try replace hs := Lib.hid (hs.out.ext hq))
        (try replace hagain := Lib.hid (hagain.out.ext hq))
        replace hE := Lib.hid (hE.out.trans hq)
        clear hq
        go_wp2_with fail
        refine (spanHas_calls _ d1 t _ hd.out).mono ?_
        rw [hd1.out]
        rintro e w13 ⟨rfl, hq⟩
        (try replace hx := Lib.hid (hx.out.ext hq))
        (try replace hy := Lib.hid (hy.out.ext hq))
        (try replace hz := Lib.hid (hz.out.ext hq))
        (try replace hn := Lib.hid (hn.out.ext hq))
        (try replace ho := Lib.hid (ho.out.ext hq))
        (try replace hm := Lib.hid (hm.out.ext hq))
        (try replace hd := Lib.hid (hd.out.ext hq))
        (try replace hp := Lib.hid (hp.out.ext hq))
        (try replace hq2 := Lib.hid (hq2.out.ext hq))
        (try replace hrn := Lib.hid (hrn.out.ext hq))
        (try replace hro := Lib.hid (hro.out.ext hq))
        (try replace hrm := Lib.hid (hrm.out.ext hq))
        (try replace hrd := Lib.hid (hrd.out.ext hq))
        (try replace hwhole := Lib.hid (hwhole.out.ext hq))
        (try replace hnone := Lib.hid (hnone.out.ext hq))
        (try replace honce := Lib.hid (honce.out.ext hq))
        (try replace htwice := Lib.hid (htwice.out.ext hq))
        (try replace hs := Lib.hid (hs.out.ext hq))
        (try replace hagain := Lib.hid (hagain.out.ext hq))
        replace hE := Lib.hid (hE.out.trans hq)
        clear hq
        go_wp2
        go_ret
        exact ⟨rfl, hE.out⟩
    | false =>
      cases r with
      | true =>
        go_wp2_with fail
        refine (spanHas_calls _ o1 t _ ho.out).mono ?_
        rw [ho1.out]
        rintro e w11 ⟨rfl, hq⟩
        (try replace hx := Lib.hid (hx.out.ext hq))
        (try replace hy := Lib.hid (hy.out.ext hq))
        (try replace hz := Lib.hid (hz.out.ext hq))
        (try replace hn := Lib.hid (hn.out.ext hq))
        (try replace ho := Lib.hid (ho.out.ext hq))
        (try replace hm := Lib.hid (hm.out.ext hq))
        (try replace hd := Lib.hid (hd.out.ext hq))
        (try replace hp := Lib.hid (hp.out.ext hq))
        (try replace hq2 := Lib.hid (hq2.out.ext hq))
        (try replace hrn := Lib.hid (hrn.out.ext hq))
        (try replace hro := Lib.hid (hro.out.ext hq))
        (try replace hrm := Lib.hid (hrm.out.ext hq))
        (try replace hrd := Lib.hid (hrd.out.ext hq))
        (try replace hwhole := Lib.hid (hwhole.out.ext hq))
        (try replace hnone := Lib.hid (hnone.out.ext hq))
        (try replace honce := Lib.hid (honce.out.ext hq))
        (try replace htwice := Lib.hid (htwice.out.ext hq))
        (try replace hs := Lib.hid (hs.out.ext hq))
        (try replace hagain := Lib.hid (hagain.out.ext hq))
        replace hE := Lib.hid (hE.out.trans hq)
        clear hq
        go_wp2_with fail
        refine (spanHas_calls _ m1 t _ hm.out).mono ?_
        rw [hm1.out]
        rintro e w12 ⟨rfl, hq⟩
        (try replace hx := Lib.hid (hx.out.ext hq))
        (try replace hy := Lib.hid (hy.out.ext hq))
        (try replace hz := Lib.hid (hz.out.ext hq))
        (try replace hn := Lib.hid (hn.out.ext hq))
        (try replace ho := Lib.hid (ho.out.ext hq))
        (try replace hm := Lib.hid (hm.out.ext hq))
        (try replace hd := Lib.hid (hd.out.ext hq))
        (try replace hp := Lib.hid (hp.out.ext hq))
        (try replace hq2 := Lib.hid (hq2.out.ext hq))
        (try replace hrn := Lib.hid (hrn.out.ext hq))
        (try replace hro := Lib.hid (hro.out.ext hq))
        (try replace hrm := Lib.hid (hrm.out.ext hq))
        (try replace hrd := Lib.hid (hrd.out.ext hq))
        (try replace hwhole := Lib.hid (hwhole.out.ext hq))
        (try replace hnone := Lib.hid (hnone.out.ext hq))
        (try replace honce := Lib.hid (honce.out.ext hq))
        (try replace htwice := Lib.hid (htwice.out.ext hq))
        (try replace hs := Lib.hid (hs.out.ext hq))
        (try replace hagain := Lib.hid (hagain.out.ext hq))
        replace hE := Lib.hid (hE.out.trans hq)
        clear hq
        go_wp2_with fail
        refine (spanHas_calls _ d1 t _ hd.out).mono ?_
        rw [hd1.out]
        rintro e w13 ⟨rfl, hq⟩
        (try replace hx := Lib.hid (hx.out.ext hq))
        (try replace hy := Lib.hid (hy.out.ext hq))
        (try replace hz := Lib.hid (hz.out.ext hq))
        (try replace hn := Lib.hid (hn.out.ext hq))
        (try replace ho := Lib.hid (ho.out.ext hq))
        (try replace hm := Lib.hid (hm.out.ext hq))
        (try replace hd := Lib.hid (hd.out.ext hq))
        (try replace hp := Lib.hid (hp.out.ext hq))
        (try replace hq2 := Lib.hid (hq2.out.ext hq))
        (try replace hrn := Lib.hid (hrn.out.ext hq))
        (try replace hro := Lib.hid (hro.out.ext hq))
        (try replace hrm := Lib.hid (hrm.out.ext hq))
        (try replace hrd := Lib.hid (hrd.out.ext hq))
        (try replace hwhole := Lib.hid (hwhole.out.ext hq))
        (try replace hnone := Lib.hid (hnone.out.ext hq))
        (try replace honce := Lib.hid (honce.out.ext hq))
        (try replace htwice := Lib.hid (htwice.out.ext hq))
        (try replace hs := Lib.hid (hs.out.ext hq))
        (try replace hagain := Lib.hid (hagain.out.ext hq))
        replace hE := Lib.hid (hE.out.trans hq)
        clear hq
        go_wp2
        go_ret
        exact ⟨rfl, hE.out⟩
      | false =>
        go_wp2_with fail
        refine (spanHas_calls _ o1 t _ ho.out).mono ?_
        rw [ho1.out]
        rintro e w11 ⟨rfl, hq⟩
        (try replace hx := Lib.hid (hx.out.ext hq))
        (try replace hy := Lib.hid (hy.out.ext hq))
        (try replace hz := Lib.hid (hz.out.ext hq))
        (try replace hn := Lib.hid (hn.out.ext hq))
        (try replace ho := Lib.hid (ho.out.ext hq))
        (try replace hm := Lib.hid (hm.out.ext hq))
        (try replace hd := Lib.hid (hd.out.ext hq))
        (try replace hp := Lib.hid (hp.out.ext hq))
        (try replace hq2 := Lib.hid (hq2.out.ext hq))
        (try replace hrn := Lib.hid (hrn.out.ext hq))
        (try replace hro := Lib.hid (hro.out.ext hq))
        (try replace hrm := Lib.hid (hrm.out.ext hq))
        (try replace hrd := Lib.hid (hrd.out.ext hq))
        (try replace hwhole := Lib.hid (hwhole.out.ext hq))
        (try replace hnone := Lib.hid (hnone.out.ext hq))
        (try replace honce := Lib.hid (honce.out.ext hq))
        (try replace htwice := Lib.hid (htwice.out.ext hq))
        (try replace hs := Lib.hid (hs.out.ext hq))
        (try replace hagain := Lib.hid (hagain.out.ext hq))
        replace hE := Lib.hid (hE.out.trans hq)
        clear hq
        go_wp2_with fail
        refine (spanHas_calls _ m1 t _ hm.out).mono ?_
        rw [hm1.out]
        rintro e w12 ⟨rfl, hq⟩
        (try replace hx := Lib.hid (hx.out.ext hq))
        (try replace hy := Lib.hid (hy.out.ext hq))
        (try replace hz := Lib.hid (hz.out.ext hq))
        (try replace hn := Lib.hid (hn.out.ext hq))
        (try replace ho := Lib.hid (ho.out.ext hq))
        (try replace hm := Lib.hid (hm.out.ext hq))
        (try replace hd := Lib.hid (hd.out.ext hq))
        (try replace hp := Lib.hid (hp.out.ext hq))
        (try replace hq2 := Lib.hid (hq2.out.ext hq))
        (try replace hrn := Lib.hid (hrn.out.ext hq))
        (try replace hro := Lib.hid (hro.out.ext hq))
        (try replace hrm := Lib.hid (hrm.out.ext hq))
        (try replace hrd := Lib.hid (hrd.out.ext hq))
        (try replace hwhole := Lib.hid (hwhole.out.ext hq))
        (try replace hnone := Lib.hid (hnone.out.ext hq))
        (try replace honce := Lib.hid (honce.out.ext hq))
        (try replace htwice := Lib.hid (htwice.out.ext hq))
        (try replace hs := Lib.hid (hs.out.ext hq))
        (try replace hagain := Lib.hid (hagain.out.ext hq))
        replace hE := Lib.hid (hE.out.trans hq)
        clear hq
        go_wp2_with fail
        refine (spanHas_calls _ d1 t _ hd.out).mono ?_
        rw [hd1.out]
        rintro e w13 ⟨rfl, hq⟩
        (try replace hx := Lib.hid (hx.out.ext hq))
        (try replace hy := Lib.hid (hy.out.ext hq))
        (try replace hz := Lib.hid (hz.out.ext hq))
        (try replace hn := Lib.hid (hn.out.ext hq))
        (try replace ho := Lib.hid (ho.out.ext hq))
        (try replace hm := Lib.hid (hm.out.ext hq))
        (try replace hd := Lib.hid (hd.out.ext hq))
        (try replace hp := Lib.hid (hp.out.ext hq))
        (try replace hq2 := Lib.hid (hq2.out.ext hq))
        (try replace hrn := Lib.hid (hrn.out.ext hq))
        (try replace hro := Lib.hid (hro.out.ext hq))
        (try replace hrm := Lib.hid (hrm.out.ext hq))
        (try replace hrd := Lib.hid (hrd.out.ext hq))
        (try replace hwhole := Lib.hid (hwhole.out.ext hq))
        (try replace hnone := Lib.hid (hnone.out.ext hq))
        (try replace honce := Lib.hid (honce.out.ext hq))
        (try replace htwice := Lib.hid (htwice.out.ext hq))
        (try replace hs := Lib.hid (hs.out.ext hq))
        (try replace hagain := Lib.hid (hagain.out.ext hq))
        replace hE := Lib.hid (hE.out.trans hq)
        clear hq
        go_wp2
        go_ret
        exact ⟨rfl, hE.out⟩
end Go.Proofs.Ytfajejelelbmmaa
