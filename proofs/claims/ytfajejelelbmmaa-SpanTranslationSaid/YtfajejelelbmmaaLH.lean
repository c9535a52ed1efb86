/- The law SpanGrowIsNeighborhood, walked: true for every list, every two numbers of minutes and every instant. -/
import Derived.Test.YtfajejelelbmmaaLB
namespace Go.Proofs.Ytfajejelelbmmaa
open Go.RowKit

theorem comb_some {k : Int} {a b : List (Int × Int)} : decide (0 < (combL k a b).length) = true ↔ ∃ u, inB k (hasB a u) (hasB b u) = true := by
  rw [decide_eq_true_iff]
  constructor
  · intro h
    cases hl : combL k a b with
    | nil => rw [hl] at h; simp at h
    | cons s r =>
      have hc := comb_chain k a b
      rw [hl] at hc
      obtain ⟨h1, _, _⟩ := chainB_cons.1 hc
      refine ⟨s.1, ?_⟩
      rw [← comb_has, hl, hasB_cons]
      simp [h1]
  · rintro ⟨u, hu⟩
    rw [← comb_has] at hu
    obtain ⟨s, hs, _⟩ := hasB_iff.1 hu
    exact List.length_pos_of_mem hs
theorem grow_near {x : List (Int × Int)} {b a t : Int} (hb : 0 ≤ b) (ha : 0 ≤ a) : hasB (combL 0 (growM x b a) []) t = decide (0 < (combL 1 x [(t - a, t + b + 1)]).length) := by
  rw [comb_has, hasB_nil, Bool.eq_iff_iff, comb_some]
  have e : ∀ h : Bool, inB 0 h false = h := fun h => by cases h <;> rfl
  rw [e, hasB_iff]
  constructor
  · rintro ⟨s, hs, h1, h2⟩
    unfold growM at hs
    obtain ⟨q, hq, rfl⟩ := List.mem_map.1 hs
    rw [List.mem_filter] at hq
    have hlt := of_decide_eq_true hq.2
    dsimp only at h1 h2
    refine ⟨max q.1 (t - a), ?_⟩
    have h3 : hasB x (max q.1 (t - a)) = true := hasB_iff.2 ⟨q, hq.1, by omega, by omega⟩
    have h4 : hasB [(t - a, t + b + 1)] (max q.1 (t - a)) = true := hasB_iff.2 ⟨_, List.mem_singleton.2 rfl, by dsimp only; omega, by dsimp only; omega⟩
    rw [h3, h4]; rfl
  · rintro ⟨u, hu⟩
    have hu' : hasB x u = true ∧ hasB [(t - a, t + b + 1)] u = true := by
      cases h1 : hasB x u <;> cases h2 : hasB [(t - a, t + b + 1)] u <;> rw [h1, h2] at hu <;> simp [inB] at hu ⊢
    obtain ⟨q, hq, q1, q2⟩ := hasB_iff.1 hu'.1
    obtain ⟨s, hs, s1, s2⟩ := hasB_iff.1 hu'.2
    rw [List.mem_singleton] at hs
    subst hs
    dsimp only at s1 s2
    refine ⟨(q.1 - b, q.2 + a), ?_, by dsimp only; omega, by dsimp only; omega⟩
    unfold growM
    rw [List.mem_map]
    refine ⟨q, ?_, rfl⟩
    rw [List.mem_filter]
    exact ⟨hq, decide_eq_true (by omega)⟩
/-- two numbers of 32 bits -/
structure PairD where
  a : Int
  b : Int
def Two32V (_ : World) (v : Value) (x : PairD) : Prop := v = .agg #[.int .u32 x.a, .int .u32 x.b] ∧ (0 ≤ x.a ∧ x.a ≤ 4294967295) ∧ 0 ≤ x.b ∧ x.b ≤ 4294967295
theorem grow_cases {x : List (Int × Int)} {b a : Int} (hb : 0 ≤ b ∧ b ≤ 4294967295) (ha : 0 ≤ a ∧ a ≤ 4294967295) :
    (growT x b a = ([], 1)) ∨ (growT x b a = ([], 2)) ∨ (growT x b a = (combL 0 (growM x b a) [], 0) ∧ rangedB x = true ∧ rangedB (growM x b a) = true) := by
  have m : ∀ z : Int, 0 ≤ z ∧ z ≤ 4294967295 → minsB z = false := fun z hz => by
    unfold minsB
    rw [decide_eq_false (by omega), decide_eq_false (by omega)]; rfl
  unfold growT
  rw [m b hb, m a ha]
  cases h1 : rangedB x with
  | false => exact Or.inl rfl
  | true =>
    cases h2 : rangedB (growM x b a) with
    | false => exact Or.inr (Or.inl rfl)
    | true => exact Or.inr (Or.inr ⟨rfl, rfl, rfl⟩)
set_option maxHeartbeats 3200000 in
set_option maxRecDepth 100000 in
theorem spanGrowIsNeighborhood_calls (va : Value) (l : List (Int × Int)) (vb : Value) (x2 : PairD) (t : Int) (ht0 : -2147483648 ≤ t) (ht1 : t ≤ 2147483647) (w : World) (ha : Spans w va l) (hb : Two32V w vb x2) :
    Calls Try.prog 11 #[va, vb, .int .i32 t] w fun e w' => e = .returned (.bool true) ∧ Ext w w' := by
  have ha' := Lib.hid ha
  obtain ⟨aA, aC, rfl⟩ := ha.form
  obtain ⟨b, a⟩ := x2
  obtain ⟨rfl, ⟨b0, b1⟩, a0, a1⟩ := hb
  dsimp only at b0 b1 a0 a1 ⊢
  clear ha
  go_enter Try.func11, Try.ntmps11
  go_upto_region 1 with (fail)
  refine wp_abs (S := fun W => Hid (Ext w W) ∧ Hid (Blk W w.heap.size 49 #[.int .u32 b, .int .u32 a])) ?_ ?_
  · exact ⟨Lib.hid (by exact (by repeat' (first | (with_reducible exact Ext.refl _) | (with_reducible assumption) | (with_reducible refine Ext.drewN ?_ _) | (with_reducible refine Ext.drew ?_) | (with_reducible refine Ext.alloc ?_ _) | (with_reducible refine Ext.trans ?_ (by with_reducible assumption))))), Lib.hid (blk_new' rfl rfl)⟩
  rintro W0 ⟨hE, hS⟩
  go_wp2_with fail
  refine (sanity12_calls W0).mono ?_
  rintro e w0 ⟨rfl, hq⟩
  replace hS := Lib.hid (hS.out.below hq hS.out.lt)
  (try replace hx := Lib.hid (hx.out.ext hq))
  (try replace hy := Lib.hid (hy.out.ext hq))
  (try replace hz := Lib.hid (hz.out.ext hq))
  (try replace hn := Lib.hid (hn.out.ext hq))
  (try replace ho := Lib.hid (ho.out.ext hq))
  (try replace hm := Lib.hid (hm.out.ext hq))
  (try replace hd := Lib.hid (hd.out.ext hq))
  (try replace hp := Lib.hid (hp.out.ext hq))
  (try replace hq2 := Lib.hid (hq2.out.ext hq))
  (try replace hrn := Lib.hid (hrn.out.ext hq))
  (try replace hro := Lib.hid (hro.out.ext hq))
  (try replace hrm := Lib.hid (hrm.out.ext hq))
  (try replace hrd := Lib.hid (hrd.out.ext hq))
  (try replace hwhole := Lib.hid (hwhole.out.ext hq))
  (try replace hnone := Lib.hid (hnone.out.ext hq))
  (try replace honce := Lib.hid (honce.out.ext hq))
  (try replace htwice := Lib.hid (htwice.out.ext hq))
  (try replace hs := Lib.hid (hs.out.ext hq))
  (try replace hagain := Lib.hid (hagain.out.ext hq))
  replace hE := Lib.hid (hE.out.trans hq)
  clear hq
  go_wp2_with fail
  refine (few_calls _ l _ (ha'.out.ext hE.out)).mono ?_
  rintro e w0 ⟨v, x, rfl, hv, hxe, hxl, rfl⟩
  obtain ⟨xA, xC, rfl⟩ := hv.form
  have hx := Lib.hid hv
  clear hv
  clear ha' hxe
  obtain ⟨⟨n1, n2⟩, kn⟩ : ∃ r, Hid (growT x b a = r) := ⟨_, rfl⟩
  have hcase : (n1 = [] ∧ n2 = 1) ∨ (n1 = [] ∧ n2 = 2) ∨ (n2 = 0 ∧ rangedB x = true ∧ rangedB (growM x b a) = true ∧ Hid (n1 = combL 0 (growM x b a) [])) := by
    rcases grow_cases (x := x) ⟨b0, b1⟩ ⟨a0, a1⟩ with h | h | ⟨h, h1, h2⟩
    · rw [h] at kn; have := kn.out; cases this; exact Or.inl ⟨rfl, rfl⟩
    · rw [h] at kn; have := kn.out; cases this; exact Or.inr (Or.inl ⟨rfl, rfl⟩)
    · rw [h] at kn; have := kn.out; cases this; exact Or.inr (Or.inr ⟨rfl, h1, h2, rfl⟩)
  have c0 : w0.cell? ⟨w.heap.size, 0, none⟩ = some (.int .u32 b) := hS.out.cell 0
  have c1 : w0.cell? ⟨w.heap.size, 1, none⟩ = some (.int .u32 a) := hS.out.cell 1
  go_wp2_with fail
  refine (spanGrow_calls _ x b a _ hx.out (by omega)).mono ?_
  rintro e w1 ⟨v, rfl, hv, hq⟩
  rw [kn.out] at hv ⊢
  dsimp only at hv ⊢
  obtain ⟨nA, nC, rfl⟩ := hv.read.form
  replace hS := Lib.hid (hS.out.below hq hS.out.lt)
  (try replace hx := Lib.hid (hx.out.ext hq))
  (try replace hy := Lib.hid (hy.out.ext hq))
  (try replace hz := Lib.hid (hz.out.ext hq))
  (try replace hn := Lib.hid (hn.out.ext hq))
  (try replace ho := Lib.hid (ho.out.ext hq))
  (try replace hm := Lib.hid (hm.out.ext hq))
  (try replace hd := Lib.hid (hd.out.ext hq))
  (try replace hp := Lib.hid (hp.out.ext hq))
  (try replace hq2 := Lib.hid (hq2.out.ext hq))
  (try replace hrn := Lib.hid (hrn.out.ext hq))
  (try replace hro := Lib.hid (hro.out.ext hq))
  (try replace hrm := Lib.hid (hrm.out.ext hq))
  (try replace hrd := Lib.hid (hrd.out.ext hq))
  (try replace hwhole := Lib.hid (hwhole.out.ext hq))
  (try replace hnone := Lib.hid (hnone.out.ext hq))
  (try replace honce := Lib.hid (honce.out.ext hq))
  (try replace htwice := Lib.hid (htwice.out.ext hq))
  (try replace hs := Lib.hid (hs.out.ext hq))
  (try replace hagain := Lib.hid (hagain.out.ext hq))
  replace hE := Lib.hid (hE.out.trans hq)
  clear hq
  have hn := Lib.hid hv.read
  replace c0 : w1.cell? ⟨w.heap.size, 0, none⟩ = some (.int .u32 b) := hS.out.cell 0
  replace c1 : w1.cell? ⟨w.heap.size, 1, none⟩ = some (.int .u32 a) := hS.out.cell 1
  clear hv kn
  rcases hcase with ⟨rfl, rfl⟩ | ⟨rfl, rfl⟩ | ⟨rfl, rx, rg, hn1⟩
  · skip
    go_wp2
    go_ret
    exact ⟨rfl, hE.out⟩
  · skip
    go_wp2
    go_ret
    exact ⟨rfl, hE.out⟩
  · have hr2 : rangedB [(t - a, t + b + 1)] = true := by
      have m : ∀ z : Int, -9000000000 ≤ z → z ≤ 9000000000 → farB z = false := fun z h1 h2 => by
        unfold farB
        rw [decide_eq_false (by omega), decide_eq_false (by omega)]; rfl
      simp only [rangedB, List.all_cons, List.all_nil, m (t - a) (by omega) (by omega), m (t + b + 1) (by omega) (by omega)]
      rfl
    obtain ⟨m1, hm1⟩ : ∃ m1, Hid (combL 1 x [(t - a, t + b + 1)] = m1) := ⟨_, rfl⟩
    have km : Hid (combT 1 x [(t - a, t + b + 1)] = (m1, 0)) := Lib.hid (by rw [combT_ok rx hr2, hm1.out])
    have hnear : Hid (hasB n1 t = decide (0 < (m1.length : Int))) := Lib.hid (by
      rw [hn1.out, grow_near b0 a0, hm1.out, Bool.eq_iff_iff, decide_eq_true_iff, decide_eq_true_iff]; omega)
    have hnn : Hid (normalB n1 = true) := Lib.hid (by rw [hn1.out]; exact comb_normal rg rfl)
    clear rx rg hn1 hr2 hm1
    go_wp2_with fail
    refine (spanMeet_calls _ _ x [(t - a, t + b + 1)] _ (hx.out.ext ((Ext.refl w1).alloc _)) (lit_spans w1 [(t - a, t + b + 1)] (by simp)) (by omega) (by simp)).mono ?_
    rintro e w2 ⟨v, rfl, hv, hq0⟩
    rw [km.out] at hv ⊢
    dsimp only at hv ⊢
    obtain ⟨mA, mC, rfl⟩ := hv.read.form
    have hq : Ext w1 w2 := ((Ext.refl w1).alloc _).trans hq0
    (try replace hx := Lib.hid (hx.out.ext hq))
    (try replace hy := Lib.hid (hy.out.ext hq))
    (try replace hz := Lib.hid (hz.out.ext hq))
    (try replace hn := Lib.hid (hn.out.ext hq))
    (try replace ho := Lib.hid (ho.out.ext hq))
    (try replace hm := Lib.hid (hm.out.ext hq))
    (try replace hd := Lib.hid (hd.out.ext hq))
    (try replace hp := Lib.hid (hp.out.ext hq))
    (try replace hq2 := Lib.hid (hq2.out.ext hq))
    (try replace hrn := Lib.hid (hrn.out.ext hq))
    (try replace hro := Lib.hid (hro.out.ext hq))
    (try replace hrm := Lib.hid (hrm.out.ext hq))
    (try replace hrd := Lib.hid (hrd.out.ext hq))
    (try replace hwhole := Lib.hid (hwhole.out.ext hq))
    (try replace hnone := Lib.hid (hnone.out.ext hq))
    (try replace honce := Lib.hid (honce.out.ext hq))
    (try replace htwice := Lib.hid (htwice.out.ext hq))
    (try replace hs := Lib.hid (hs.out.ext hq))
    (try replace hagain := Lib.hid (hagain.out.ext hq))
    replace hE := Lib.hid (hE.out.trans hq)
    clear hq
    clear hv hq0 km c0 c1 hS
    obtain ⟨k, hk⟩ : ∃ k, Hid (m1.length = k) := ⟨_, rfl⟩
    rw [hk.out] at hnear ⊢
    clear hk
    go_wp2_with fail
    refine (spanValid_calls _ n1 _ hn.out).mono ?_
    rw [hnn.out]
    rintro e w3 ⟨rfl, hq⟩
    (try replace hx := Lib.hid (hx.out.ext hq))
    (try replace hy := Lib.hid (hy.out.ext hq))
    (try replace hz := Lib.hid (hz.out.ext hq))
    (try replace hn := Lib.hid (hn.out.ext hq))
    (try replace ho := Lib.hid (ho.out.ext hq))
    (try replace hm := Lib.hid (hm.out.ext hq))
    (try replace hd := Lib.hid (hd.out.ext hq))
    (try replace hp := Lib.hid (hp.out.ext hq))
    (try replace hq2 := Lib.hid (hq2.out.ext hq))
    (try replace hrn := Lib.hid (hrn.out.ext hq))
    (try replace hro := Lib.hid (hro.out.ext hq))
    (try replace hrm := Lib.hid (hrm.out.ext hq))
    (try replace hrd := Lib.hid (hrd.out.ext hq))
    (try replace hwhole := Lib.hid (hwhole.out.ext hq))
    (try replace hnone := Lib.hid (hnone.out.ext hq))
    (try replace honce := Lib.hid (honce.out.ext hq))
    (try replace htwice := Lib.hid (htwice.out.ext hq))
    (try replace hs := Lib.hid (hs.out.ext hq))
    (try replace hagain := Lib.hid (hagain.out.ext hq))
    replace hE := Lib.hid (hE.out.trans hq)
    clear hq
    go_wp2_with fail
    refine (spanHas_calls _ n1 t _ hn.out).mono ?_
    rw [hnear.out]
    rintro e w4 ⟨rfl, hq⟩
    (try replace hx := Lib.hid (hx.out.ext hq))
    (try replace hy := Lib.hid (hy.out.ext hq))
    (try replace hz := Lib.hid (hz.out.ext hq))
    (try replace hn := Lib.hid (hn.out.ext hq))
    (try replace ho := Lib.hid (ho.out.ext hq))
    (try replace hm := Lib.hid (hm.out.ext hq))
    (try replace hd := Lib.hid (hd.out.ext hq))
    (try replace hp := Lib.hid (hp.out.ext hq))
    (try replace hq2 := Lib.hid (hq2.out.ext hq))
    (try replace hrn := Lib.hid (hrn.out.ext hq))
    (try replace hro := Lib.hid (hro.out.ext hq))
    (try replace hrm := Lib.hid (hrm.out.ext hq))
    (try replace hrd := Lib.hid (hrd.out.ext hq))
    (try replace hwhole := Lib.hid (hwhole.out.ext hq))
    (try replace hnone := Lib.hid (hnone.out.ext hq))
    (try replace honce := Lib.hid (honce.out.ext hq))
    (try replace htwice := Lib.hid (htwice.out.ext hq))
    (try replace hs := Lib.hid (hs.out.ext hq))
    (try replace hagain := Lib.hid (hagain.out.ext hq))
    replace hE := Lib.hid (hE.out.trans hq)
    clear hq
    by_cases hk : k = 0
    · subst hk
      go_wp2
      go_ret
      exact ⟨rfl, hE.out⟩
    · have hd : decide (0 < (k : Int)) = true := decide_eq_true (by omega)
      go_wp2
      go_ret
      exact ⟨rfl, hE.out⟩
end Go.Proofs.Ytfajejelelbmmaa
