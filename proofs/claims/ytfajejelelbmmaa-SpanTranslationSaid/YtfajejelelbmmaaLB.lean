/- The law SpanAlgebra, walked: true for every three lists. -/
import Derived.Test.YtfajejelelbmmaaYK
namespace Go.Proofs.Ytfajejelelbmmaa
open Go.RowKit

theorem comb_len (k : Int) (a b : List (Int × Int)) : (combL k a b).length ≤ 2 * (a.length + b.length) := by
  have h1 := combTo_len k a b (insAll (a ++ b)) ((insAll (a ++ b)).length - 1)
  have h2 := insAll_len (a ++ b)
  rw [List.length_append] at h2
  unfold combL
  omega
theorem alg_whole (x y : List (Int × Int)) : combL 0 (combL 2 x y) (combL 1 x y) = combL 0 x [] :=
  chain_unique (comb_chain _ _ _) (comb_chain _ _ _) fun t => by
    rw [comb_has, comb_has, comb_has, comb_has, hasB_nil]
    cases hasB x t <;> cases hasB y t <;> decide
theorem alg_none (x y : List (Int × Int)) : combL 1 (combL 2 x y) (combL 1 x y) = [] :=
  chain_unique (comb_chain _ _ _) rfl fun t => by
    rw [comb_has, comb_has, comb_has, hasB_nil]
    cases hasB x t <;> cases hasB y t <;> decide
theorem alg_twice (x y z : List (Int × Int)) : combL 2 (combL 2 x y) z = combL 2 x (combL 0 y z) :=
  chain_unique (comb_chain _ _ _) (comb_chain _ _ _) fun t => by
    rw [comb_has, comb_has, comb_has, comb_has]
    cases hasB x t <;> cases hasB y t <;> cases hasB z t <;> decide
set_option maxHeartbeats 3200000 in
set_option maxRecDepth 100000 in
theorem spanAlgebra_calls (va : Value) (a : List (Int × Int)) (vb : Value) (b : List (Int × Int)) (vc : Value) (c : List (Int × Int)) (w : World) (ha : Spans w va a) (hb : Spans w vb b) (hc : Spans w vc c) :
    Calls Try.prog 9 #[va, vb, vc] w fun e w' => e = .returned (.bool true) ∧ Ext w w' := by
  have ha' := Lib.hid ha
  have hb' := Lib.hid hb
  have hc' := Lib.hid hc
  obtain ⟨aA, aC, rfl⟩ := ha.form
  obtain ⟨bA, bC, rfl⟩ := hb.form
  obtain ⟨cA, cC, rfl⟩ := hc.form
  clear ha hb hc
  go_enter Try.func9, Try.ntmps9
  go_wp2_with fail
  refine (sanity12_calls w).mono ?_
  rintro e w0 ⟨rfl, hx0⟩
  have hE := Lib.hid hx0
  clear hx0
  go_wp2_with fail
  refine (few_calls _ a _ (ha'.out.ext hE.out)).mono ?_
  rintro e w0 ⟨v, x, rfl, hv, hxe, hxl, rfl⟩
  obtain ⟨xA, xC, rfl⟩ := hv.form
  have hx := Lib.hid hv
  clear hv
  go_wp2_with fail
  refine (few_calls _ b _ (hb'.out.ext hE.out)).mono ?_
  rintro e w0 ⟨v, y, rfl, hv, hye, hyl, rfl⟩
  obtain ⟨yA, yC, rfl⟩ := hv.form
  have hy := Lib.hid hv
  clear hv
  go_wp2_with fail
  refine (few_calls _ c _ (hc'.out.ext hE.out)).mono ?_
  rintro e w0 ⟨v, z, rfl, hv, hze, hzl, rfl⟩
  obtain ⟨zA, zC, rfl⟩ := hv.form
  have hz := Lib.hid hv
  clear hv
  clear ha' hb' hc' hxe hye hze
  obtain ⟨⟨n1, n2⟩, kn⟩ : ∃ r, Hid (combT 0 x [] = r) := ⟨_, rfl⟩
  obtain ⟨⟨d1, d2⟩, kd⟩ : ∃ r, Hid (combT 2 x y = r) := ⟨_, rfl⟩
  obtain ⟨⟨m1, m2⟩, km⟩ : ∃ r, Hid (combT 1 x y = r) := ⟨_, rfl⟩
  obtain ⟨⟨o1, o2⟩, ko⟩ : ∃ r, Hid (combT 0 y z = r) := ⟨_, rfl⟩
  have hcase : Hid ((n2 = 1 ∧ d2 = 1 ∧ m2 = 1) ∨ (n2 = 0 ∧ d2 = 1 ∧ m2 = 1) ∨ (n2 = 0 ∧ d2 = 0 ∧ m2 = 0 ∧ o2 = 1) ∨ (n2 = 0 ∧ d2 = 0 ∧ m2 = 0 ∧ o2 = 0 ∧ rangedB x = true ∧ rangedB y = true ∧ rangedB z = true ∧ n1 = combL 0 x [] ∧ d1 = combL 2 x y ∧ m1 = combL 1 x y ∧ o1 = combL 0 y z)) := by
    have a1 := kn.out
    have a2 := kd.out
    have a3 := km.out
    have a4 := ko.out
    show _ ∨ _
    cases hrx : rangedB x with
    | false =>
      rw [combT_no (by rw [hrx]; rfl)] at a1 a2 a3
      cases a1; cases a2; cases a3
      exact Or.inl ⟨rfl, rfl, rfl⟩
    | true =>
      cases hry : rangedB y with
      | false =>
        rw [combT_ok hrx rfl] at a1
        rw [combT_no (by rw [hry, Bool.and_false])] at a2 a3
        cases a1; cases a2; cases a3
        exact Or.inr (Or.inl ⟨rfl, rfl, rfl⟩)
      | true =>
        rw [combT_ok hrx rfl] at a1
        rw [combT_ok hrx hry] at a2 a3
        cases a1; cases a2; cases a3
        cases hrz : rangedB z with
        | false =>
          rw [combT_no (by rw [hrz, Bool.and_false])] at a4
          cases a4
          exact Or.inr (Or.inr (Or.inl ⟨rfl, rfl, rfl, rfl⟩))
        | true =>
          rw [combT_ok hry hrz] at a4
          cases a4
          exact Or.inr (Or.inr (Or.inr ⟨rfl, rfl, rfl, rfl, rfl, rfl, rfl, rfl, rfl, rfl, rfl⟩))
  go_wp2_with fail
  refine (spanNorm_calls _ x _ hx.out (by omega)).mono ?_
  rintro e w1 ⟨v, rfl, hv, hq⟩
  rw [kn.out] at hv ⊢
  dsimp only at hv ⊢
  obtain ⟨nA, nC, rfl⟩ := hv.read.form
  (try replace hx := Lib.hid (hx.out.ext hq))
  (try replace hy := Lib.hid (hy.out.ext hq))
  (try replace hz := Lib.hid (hz.out.ext hq))
  (try replace hn := Lib.hid (hn.out.ext hq))
  (try replace ho := Lib.hid (ho.out.ext hq))
  (try replace hm := Lib.hid (hm.out.ext hq))
  (try replace hd := Lib.hid (hd.out.ext hq))
  (try replace hp := Lib.hid (hp.out.ext hq))
  (try replace hq2 := Lib.hid (hq2.out.ext hq))
  (try replace hrn := Lib.hid (hrn.out.ext hq))
  (try replace hro := Lib.hid (hro.out.ext hq))
  (try replace hrm := Lib.hid (hrm.out.ext hq))
  (try replace hrd := Lib.hid (hrd.out.ext hq))
  (try replace hwhole := Lib.hid (hwhole.out.ext hq))
  (try replace hnone := Lib.hid (hnone.out.ext hq))
  (try replace honce := Lib.hid (honce.out.ext hq))
  (try replace htwice := Lib.hid (htwice.out.ext hq))
  (try replace hs := Lib.hid (hs.out.ext hq))
  (try replace hagain := Lib.hid (hagain.out.ext hq))
  replace hE := Lib.hid (hE.out.trans hq)
  clear hq
  have hn := Lib.hid hv.read
  clear hv
  go_wp2_with fail
  refine (spanMinus_calls _ _ x y _ hx.out hy.out (by omega) (by omega)).mono ?_
  rintro e w2 ⟨v, rfl, hv, hq⟩
  rw [kd.out] at hv ⊢
  dsimp only at hv ⊢
  obtain ⟨dA, dC, rfl⟩ := hv.read.form
  (try replace hx := Lib.hid (hx.out.ext hq))
  (try replace hy := Lib.hid (hy.out.ext hq))
  (try replace hz := Lib.hid (hz.out.ext hq))
  (try replace hn := Lib.hid (hn.out.ext hq))
  (try replace ho := Lib.hid (ho.out.ext hq))
  (try replace hm := Lib.hid (hm.out.ext hq))
  (try replace hd := Lib.hid (hd.out.ext hq))
  (try replace hp := Lib.hid (hp.out.ext hq))
  (try replace hq2 := Lib.hid (hq2.out.ext hq))
  (try replace hrn := Lib.hid (hrn.out.ext hq))
  (try replace hro := Lib.hid (hro.out.ext hq))
  (try replace hrm := Lib.hid (hrm.out.ext hq))
  (try replace hrd := Lib.hid (hrd.out.ext hq))
  (try replace hwhole := Lib.hid (hwhole.out.ext hq))
  (try replace hnone := Lib.hid (hnone.out.ext hq))
  (try replace honce := Lib.hid (honce.out.ext hq))
  (try replace htwice := Lib.hid (htwice.out.ext hq))
  (try replace hs := Lib.hid (hs.out.ext hq))
  (try replace hagain := Lib.hid (hagain.out.ext hq))
  replace hE := Lib.hid (hE.out.trans hq)
  clear hq
  have hd := Lib.hid hv.read
  clear hv
  go_wp2_with fail
  refine (spanMeet_calls _ _ x y _ hx.out hy.out (by omega) (by omega)).mono ?_
  rintro e w3 ⟨v, rfl, hv, hq⟩
  rw [km.out] at hv ⊢
  dsimp only at hv ⊢
  obtain ⟨mA, mC, rfl⟩ := hv.read.form
  (try replace hx := Lib.hid (hx.out.ext hq))
  (try replace hy := Lib.hid (hy.out.ext hq))
  (try replace hz := Lib.hid (hz.out.ext hq))
  (try replace hn := Lib.hid (hn.out.ext hq))
  (try replace ho := Lib.hid (ho.out.ext hq))
  (try replace hm := Lib.hid (hm.out.ext hq))
  (try replace hd := Lib.hid (hd.out.ext hq))
  (try replace hp := Lib.hid (hp.out.ext hq))
  (try replace hq2 := Lib.hid (hq2.out.ext hq))
  (try replace hrn := Lib.hid (hrn.out.ext hq))
  (try replace hro := Lib.hid (hro.out.ext hq))
  (try replace hrm := Lib.hid (hrm.out.ext hq))
  (try replace hrd := Lib.hid (hrd.out.ext hq))
  (try replace hwhole := Lib.hid (hwhole.out.ext hq))
  (try replace hnone := Lib.hid (hnone.out.ext hq))
  (try replace honce := Lib.hid (honce.out.ext hq))
  (try replace htwice := Lib.hid (htwice.out.ext hq))
  (try replace hs := Lib.hid (hs.out.ext hq))
  (try replace hagain := Lib.hid (hagain.out.ext hq))
  replace hE := Lib.hid (hE.out.trans hq)
  clear hq
  have hm := Lib.hid hv.read
  clear hv
  go_wp2_with fail
  refine (spanUnion_calls _ _ y z _ hy.out hz.out (by omega) (by omega)).mono ?_
  rintro e w4 ⟨v, rfl, hv, hq⟩
  rw [ko.out] at hv ⊢
  dsimp only at hv ⊢
  obtain ⟨oA, oC, rfl⟩ := hv.read.form
  (try replace hx := Lib.hid (hx.out.ext hq))
  (try replace hy := Lib.hid (hy.out.ext hq))
  (try replace hz := Lib.hid (hz.out.ext hq))
  (try replace hn := Lib.hid (hn.out.ext hq))
  (try replace ho := Lib.hid (ho.out.ext hq))
  (try replace hm := Lib.hid (hm.out.ext hq))
  (try replace hd := Lib.hid (hd.out.ext hq))
  (try replace hp := Lib.hid (hp.out.ext hq))
  (try replace hq2 := Lib.hid (hq2.out.ext hq))
  (try replace hrn := Lib.hid (hrn.out.ext hq))
  (try replace hro := Lib.hid (hro.out.ext hq))
  (try replace hrm := Lib.hid (hrm.out.ext hq))
  (try replace hrd := Lib.hid (hrd.out.ext hq))
  (try replace hwhole := Lib.hid (hwhole.out.ext hq))
  (try replace hnone := Lib.hid (hnone.out.ext hq))
  (try replace honce := Lib.hid (honce.out.ext hq))
  (try replace htwice := Lib.hid (htwice.out.ext hq))
  (try replace hs := Lib.hid (hs.out.ext hq))
  (try replace hagain := Lib.hid (hagain.out.ext hq))
  replace hE := Lib.hid (hE.out.trans hq)
  clear hq
  have ho := Lib.hid hv.read
  clear hv
  have hcc := hcase.out
  clear hcase kn kd km ko
  rcases hcc with ⟨rfl, rfl, rfl⟩ | ⟨rfl, rfl, rfl⟩ | ⟨rfl, rfl, rfl, rfl⟩ | ⟨rfl, rfl, rfl, rfl, rx, ry, rz, en, ed, em, eo⟩
  · skip
    go_wp2
    go_ret
    exact ⟨rfl, hE.out⟩
  · skip
    go_wp2
    go_ret
    exact ⟨rfl, hE.out⟩
  · skip
    go_wp2
    go_ret
    exact ⟨rfl, hE.out⟩
  · have ld : d1.length ≤ 200 := by have := comb_len 2 x y; rw [ed]; omega
    have lm : m1.length ≤ 200 := by have := comb_len 1 x y; rw [em]; omega
    have lo : o1.length ≤ 200 := by have := comb_len 0 y z; rw [eo]; omega
    have k1 : Hid (combT 0 d1 m1 = (n1, 0)) := Lib.hid (by rw [ed, em, en, combT_ok (comb_ranged rx ry) (comb_ranged rx ry), alg_whole])
    have k2 : Hid (combT 1 d1 m1 = ([], 0)) := Lib.hid (by rw [ed, em, combT_ok (comb_ranged rx ry) (comb_ranged rx ry), alg_none])
    obtain ⟨u1, k3⟩ : ∃ u1, Hid (combT 2 x o1 = (u1, 0)) := ⟨_, Lib.hid (by rw [eo, combT_ok rx (comb_ranged ry rz)])⟩
    have k4 : Hid (combT 2 d1 z = (u1, 0)) := Lib.hid (by
      have := k3.out
      rw [eo, combT_ok rx (comb_ranged ry rz)] at this
      rw [ed, combT_ok (comb_ranged rx ry) rz, alg_twice]
      exact this)
    clear rx ry rz en ed em eo
    go_wp2_with fail
    refine (spanUnion_calls _ _ d1 m1 _ hd.out hm.out (by omega) (by omega)).mono ?_
    rintro e w5 ⟨v, rfl, hv, hq⟩
    rw [k1.out] at hv ⊢
    dsimp only at hv ⊢
    obtain ⟨wholeA, wholeC, rfl⟩ := hv.read.form
    (try replace hx := Lib.hid (hx.out.ext hq))
    (try replace hy := Lib.hid (hy.out.ext hq))
    (try replace hz := Lib.hid (hz.out.ext hq))
    (try replace hn := Lib.hid (hn.out.ext hq))
    (try replace ho := Lib.hid (ho.out.ext hq))
    (try replace hm := Lib.hid (hm.out.ext hq))
    (try replace hd := Lib.hid (hd.out.ext hq))
    (try replace hp := Lib.hid (hp.out.ext hq))
    (try replace hq2 := Lib.hid (hq2.out.ext hq))
    (try replace hrn := Lib.hid (hrn.out.ext hq))
    (try replace hro := Lib.hid (hro.out.ext hq))
    (try replace hrm := Lib.hid (hrm.out.ext hq))
    (try replace hrd := Lib.hid (hrd.out.ext hq))
    (try replace hwhole := Lib.hid (hwhole.out.ext hq))
    (try replace hnone := Lib.hid (hnone.out.ext hq))
    (try replace honce := Lib.hid (honce.out.ext hq))
    (try replace htwice := Lib.hid (htwice.out.ext hq))
    (try replace hs := Lib.hid (hs.out.ext hq))
    (try replace hagain := Lib.hid (hagain.out.ext hq))
    replace hE := Lib.hid (hE.out.trans hq)
    clear hq
    have hwhole := Lib.hid hv.read
    clear hv
    go_wp2_with fail
    refine (spanMeet_calls _ _ d1 m1 _ hd.out hm.out (by omega) (by omega)).mono ?_
    rintro e w6 ⟨v, rfl, hv, hq⟩
    rw [k2.out] at hv ⊢
    dsimp only at hv ⊢
    obtain ⟨noneA, noneC, rfl⟩ := hv.read.form
    (try replace hx := Lib.hid (hx.out.ext hq))
    (try replace hy := Lib.hid (hy.out.ext hq))
    (try replace hz := Lib.hid (hz.out.ext hq))
    (try replace hn := Lib.hid (hn.out.ext hq))
    (try replace ho := Lib.hid (ho.out.ext hq))
    (try replace hm := Lib.hid (hm.out.ext hq))
    (try replace hd := Lib.hid (hd.out.ext hq))
    (try replace hp := Lib.hid (hp.out.ext hq))
    (try replace hq2 := Lib.hid (hq2.out.ext hq))
    (try replace hrn := Lib.hid (hrn.out.ext hq))
    (try replace hro := Lib.hid (hro.out.ext hq))
    (try replace hrm := Lib.hid (hrm.out.ext hq))
    (try replace hrd := Lib.hid (hrd.out.ext hq))
    (try replace hwhole := Lib.hid (hwhole.out.ext hq))
    (try replace hnone := Lib.hid (hnone.out.ext hq))
    (try replace honce := Lib.hid (honce.out.ext hq))
    (try replace htwice := Lib.hid (htwice.out.ext hq))
    (try replace hs := Lib.hid (hs.out.ext hq))
    (try replace hagain := Lib.hid (hagain.out.ext hq))
    replace hE := Lib.hid (hE.out.trans hq)
    clear hq
    have hnone := Lib.hid hv.read
    clear hv
    go_wp2_with fail
    refine (spanMinus_calls _ _ x o1 _ hx.out ho.out (by omega) (by omega)).mono ?_
    rintro e w7 ⟨v, rfl, hv, hq⟩
    rw [k3.out] at hv ⊢
    dsimp only at hv ⊢
    obtain ⟨onceA, onceC, rfl⟩ := hv.read.form
    (try replace hx := Lib.hid (hx.out.ext hq))
    (try replace hy := Lib.hid (hy.out.ext hq))
    (try replace hz := Lib.hid (hz.out.ext hq))
    (try replace hn := Lib.hid (hn.out.ext hq))
    (try replace ho := Lib.hid (ho.out.ext hq))
    (try replace hm := Lib.hid (hm.out.ext hq))
    (try replace hd := Lib.hid (hd.out.ext hq))
    (try replace hp := Lib.hid (hp.out.ext hq))
    (try replace hq2 := Lib.hid (hq2.out.ext hq))
    (try replace hrn := Lib.hid (hrn.out.ext hq))
    (try replace hro := Lib.hid (hro.out.ext hq))
    (try replace hrm := Lib.hid (hrm.out.ext hq))
    (try replace hrd := Lib.hid (hrd.out.ext hq))
    (try replace hwhole := Lib.hid (hwhole.out.ext hq))
    (try replace hnone := Lib.hid (hnone.out.ext hq))
    (try replace honce := Lib.hid (honce.out.ext hq))
    (try replace htwice := Lib.hid (htwice.out.ext hq))
    (try replace hs := Lib.hid (hs.out.ext hq))
    (try replace hagain := Lib.hid (hagain.out.ext hq))
    replace hE := Lib.hid (hE.out.trans hq)
    clear hq
    have honce := Lib.hid hv.read
    clear hv
    go_wp2_with fail
    refine (spanMinus_calls _ _ d1 z _ hd.out hz.out (by omega) (by omega)).mono ?_
    rintro e w8 ⟨v, rfl, hv, hq⟩
    rw [k4.out] at hv ⊢
    dsimp only at hv ⊢
    obtain ⟨twiceA, twiceC, rfl⟩ := hv.read.form
    (try replace hx := Lib.hid (hx.out.ext hq))
    (try replace hy := Lib.hid (hy.out.ext hq))
    (try replace hz := Lib.hid (hz.out.ext hq))
    (try replace hn := Lib.hid (hn.out.ext hq))
    (try replace ho := Lib.hid (ho.out.ext hq))
    (try replace hm := Lib.hid (hm.out.ext hq))
    (try replace hd := Lib.hid (hd.out.ext hq))
    (try replace hp := Lib.hid (hp.out.ext hq))
    (try replace hq2 := Lib.hid (hq2.out.ext hq))
    (try replace hrn := Lib.hid (hrn.out.ext hq))
    (try replace hro := Lib.hid (hro.out.ext hq))
    (try replace hrm := Lib.hid (hrm.out.ext hq))
    (try replace hrd := Lib.hid (hrd.out.ext hq))
    (try replace hwhole := Lib.hid (hwhole.out.ext hq))
    (try replace hnone := Lib.hid (hnone.out.ext hq))
    (try replace honce := Lib.hid (honce.out.ext hq))
    (try replace htwice := Lib.hid (htwice.out.ext hq))
    (try replace hs := Lib.hid (hs.out.ext hq))
    (try replace hagain := Lib.hid (hagain.out.ext hq))
    replace hE := Lib.hid (hE.out.trans hq)
    clear hq
    have htwice := Lib.hid hv.read
    clear hv
    go_wp2_with fail
    refine (rSameS_calls _ _ n1 n1 _ hwhole.out hn.out).mono ?_
    rw [sameB_self]
    rintro e w9 ⟨rfl, hq⟩
    (try replace hx := Lib.hid (hx.out.ext hq))
    (try replace hy := Lib.hid (hy.out.ext hq))
    (try replace hz := Lib.hid (hz.out.ext hq))
    (try replace hn := Lib.hid (hn.out.ext hq))
    (try replace ho := Lib.hid (ho.out.ext hq))
    (try replace hm := Lib.hid (hm.out.ext hq))
    (try replace hd := Lib.hid (hd.out.ext hq))
    (try replace hp := Lib.hid (hp.out.ext hq))
    (try replace hq2 := Lib.hid (hq2.out.ext hq))
    (try replace hrn := Lib.hid (hrn.out.ext hq))
    (try replace hro := Lib.hid (hro.out.ext hq))
    (try replace hrm := Lib.hid (hrm.out.ext hq))
    (try replace hrd := Lib.hid (hrd.out.ext hq))
    (try replace hwhole := Lib.hid (hwhole.out.ext hq))
    (try replace hnone := Lib.hid (hnone.out.ext hq))
    (try replace honce := Lib.hid (honce.out.ext hq))
    (try replace htwice := Lib.hid (htwice.out.ext hq))
    (try replace hs := Lib.hid (hs.out.ext hq))
    (try replace hagain := Lib.hid (hagain.out.ext hq))
    replace hE := Lib.hid (hE.out.trans hq)
    clear hq
    go_wp2_with fail
    refine (rSameS_calls _ _ u1 u1 _ honce.out htwice.out).mono ?_
    rw [sameB_self]
    rintro e w10 ⟨rfl, hq⟩
    (try replace hx := Lib.hid (hx.out.ext hq))
    (try replace hy := Lib.hid (hy.out.ext hq))
    (try replace hz := Lib.hid (hz.out.ext hq))
    (try replace hn := Lib.hid (hn.out.ext hq))
    (try replace ho := Lib.hid (ho.out.ext hq))
    (try replace hm := Lib.hid (hm.out.ext hq))
    (try replace hd := Lib.hid (hd.out.ext hq))
    (try replace hp := Lib.hid (hp.out.ext hq))
    (try replace hq2 := Lib.hid (hq2.out.ext hq))
    (try replace hrn := Lib.hid (hrn.out.ext hq))
    (try replace hro := Lib.hid (hro.out.ext hq))
    (try replace hrm := Lib.hid (hrm.out.ext hq))
    (try replace hrd := Lib.hid (hrd.out.ext hq))
    (try replace hwhole := Lib.hid (hwhole.out.ext hq))
    (try replace hnone := Lib.hid (hnone.out.ext hq))
    (try replace honce := Lib.hid (honce.out.ext hq))
    (try replace htwice := Lib.hid (htwice.out.ext hq))
    (try replace hs := Lib.hid (hs.out.ext hq))
    (try replace hagain := Lib.hid (hagain.out.ext hq))
    replace hE := Lib.hid (hE.out.trans hq)
    clear hq
    go_wp2
    go_ret
    exact ⟨rfl, hE.out⟩
end Go.Proofs.Ytfajejelelbmmaa
