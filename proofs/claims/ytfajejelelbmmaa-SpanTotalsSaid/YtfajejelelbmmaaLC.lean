/- The law SpanTotals, walked: true for every two lists. -/
import Derived.Test.YtfajejelelbmmaaLB
namespace Go.Proofs.Ytfajejelelbmmaa
open Go.RowKit

/-! ### a list's total is the number of its instants -/
def cntT (f : Int → Bool) (lo : Int) : Nat → Int
  | 0 => 0
  | n + 1 => cntT f lo n + (if f (lo + n) then 1 else 0)
theorem cntT_two (f g : Int → Bool) (lo : Int) : ∀ n, cntT f lo n + cntT g lo n = cntT (fun t => f t || g t) lo n + cntT (fun t => f t && g t) lo n
  | 0 => rfl
  | n + 1 => by
    have := cntT_two f g lo n
    cases h1 : f (lo + n) <;> cases h2 : g (lo + n) <;> simp [cntT, h1, h2] <;> omega
theorem cntT_congr {f g : Int → Bool} {lo : Int} (h : ∀ t, f t = g t) : ∀ n, cntT f lo n = cntT g lo n
  | 0 => rfl
  | n + 1 => by simp only [cntT, cntT_congr h n, h]
theorem cntT_none {lo : Int} : ∀ n, cntT (fun _ => false) lo n = 0
  | 0 => rfl
  | n + 1 => by simp [cntT, cntT_none n]
theorem cntT_bd (f : Int → Bool) (lo : Int) : ∀ n : Nat, 0 ≤ cntT f lo n ∧ cntT f lo n ≤ n
  | 0 => by simp [cntT]
  | n + 1 => by
    have := cntT_bd f lo n
    simp only [cntT]
    split <;> omega
theorem cntT_span {u v lo : Int} (h0 : lo ≤ u) (h1 : u ≤ v) : ∀ n : Nat, cntT (fun t => decide (u ≤ t) && decide (t < v)) lo n = min v (lo + n) - min u (lo + n)
  | 0 => by simp [cntT]; omega
  | n + 1 => by
    rw [cntT, cntT_span h0 h1 n]
    by_cases a : u ≤ lo + n
    · by_cases b : lo + n < v
      · rw [decide_eq_true a, decide_eq_true b]; simp; omega
      · rw [decide_eq_true a, decide_eq_false b]; simp; omega
    · rw [decide_eq_false a]; simp; omega
theorem total_cnt {lo : Int} {n : Nat} : ∀ {l : List (Int × Int)}, chainB none l = true → (∀ s ∈ l, lo ≤ s.1 ∧ s.2 ≤ lo + n) → totalL l = cntT (hasB l) lo n
  | [], _, _ => by rw [cntT_congr (g := fun _ => false) (fun t => hasB_nil t), cntT_none]; rfl
  | s :: r, h, hb => by
    obtain ⟨a, _, c⟩ := chainB_cons.1 h
    have ih := total_cnt (chainB_weak c) (fun q hq => hb q (List.mem_cons_of_mem _ hq))
    have hs := hb s List.mem_cons_self
    have two := cntT_two (fun t => decide (s.1 ≤ t) && decide (t < s.2)) (hasB r) lo n
    rw [cntT_congr (f := fun t => (decide (s.1 ≤ t) && decide (t < s.2)) && hasB r t) (g := fun _ => false) (fun t => by
      by_cases ht : t < s.2
      · rw [has_behind c (by omega), Bool.and_false]
      · rw [decide_eq_false ht, Bool.and_false, Bool.false_and]), cntT_none, cntT_span hs.1 (Int.le_of_lt a)] at two
    rw [totalL, ih, cntT_congr (f := hasB (s :: r)) (g := fun t => (decide (s.1 ≤ t) && decide (t < s.2)) || hasB r t) (fun t => hasB_cons s r t)]
    omega
theorem total_len : ∀ {l : List (Int × Int)}, chainB none l = true → (l.length : Int) ≤ totalL l
  | [], _ => by simp [totalL]
  | s :: r, h => by
    obtain ⟨a, _, c⟩ := chainB_cons.1 h
    have := total_len (chainB_weak c)
    rw [totalL, List.length_cons]
    omega
theorem total_bd {l : List (Int × Int)} (h : normalB l = true) : totalL l = cntT (hasB l) (-2251799813685248) 4503599627370496 ∧ 0 ≤ totalL l ∧ totalL l ≤ 4503599627370496 := by
  simp only [normalB, Bool.and_eq_true] at h
  have e := total_cnt (lo := -2251799813685248) (n := 4503599627370496) h.1 (fun s hs => by
    have := ranged_at h.2 (x := s.1) (y := s.2) hs
    constructor
    · exact this.1.1
    · have := this.2.2; omega)
  have b := cntT_bd (hasB l) (-2251799813685248) 4503599627370496
  rw [← e] at b
  exact ⟨e, b.1, by have := b.2; omega⟩
theorem total_bd' {l : List (Int × Int)} (h : normalB l = true) : 0 ≤ totalL l ∧ totalL l ≤ 4503599627370496 := (total_bd h).2
theorem totals_add {x y : List (Int × Int)} (hx : normalB x = true) (hy : normalB y = true) : totalL x + totalL y = totalL (combL 0 x y) + totalL (combL 1 x y) := by
  have rx : rangedB x = true := by simp only [normalB, Bool.and_eq_true] at hx; exact hx.2
  have ry : rangedB y = true := by simp only [normalB, Bool.and_eq_true] at hy; exact hy.2
  rw [(total_bd hx).1, (total_bd hy).1, (total_bd (comb_normal (k := 0) rx ry)).1, (total_bd (comb_normal (k := 1) rx ry)).1, cntT_two]
  rw [cntT_congr (f := hasB (combL 0 x y)) (g := fun t => hasB x t || hasB y t) (fun t => by rw [comb_has]; rfl), cntT_congr (f := hasB (combL 1 x y)) (g := fun t => hasB x t && hasB y t) (fun t => by rw [comb_has]; rfl)]
theorem totalT_ok {l : List (Int × Int)} (h : normalB l = true) : totalT l = (totalL l, 0) := by simp [totalT, h]
theorem totalT_bad (l : List (Int × Int)) : totalT ((1, 1) :: l) = (0, 1) := by
  have : normalB ((1, 1) :: l) = false := by
    rw [normalB, show chainB none ((1, 1) :: l) = false by simp [chainB]]
    rfl
  simp [totalT, this]
set_option maxHeartbeats 3200000 in
set_option maxRecDepth 100000 in
theorem spanTotals_calls (va : Value) (a : List (Int × Int)) (vb : Value) (b : List (Int × Int)) (w : World) (ha : Spans w va a) (hb : Spans w vb b) :
    Calls Try.prog 5 #[va, vb] w fun e w' => e = .returned (.bool true) ∧ Ext w w' := by
  have ha' := Lib.hid ha
  have hb' := Lib.hid hb
  obtain ⟨j0, hj0, jz0, jz1, jz2⟩ := info_parts span_info
  obtain ⟨aA, aC, rfl⟩ := ha.form
  obtain ⟨bA, bC, rfl⟩ := hb.form
  clear ha hb
  go_enter Try.func5, Try.ntmps5
  go_wp2_with fail
  refine (sanity12_calls w).mono ?_
  rintro e w0 ⟨rfl, hx0⟩
  have hE := Lib.hid hx0
  clear hx0
  go_wp2_with fail
  refine (few_calls _ a _ (ha'.out.ext hE.out)).mono ?_
  rintro e w0 ⟨v, x, rfl, hv, hxe, hxl, rfl⟩
  obtain ⟨xA, xC, rfl⟩ := hv.form
  have hx := Lib.hid hv
  clear hv
  obtain ⟨⟨n1, n2⟩, kn⟩ : ∃ r, Hid (combT 0 x [] = r) := ⟨_, rfl⟩
  go_wp2_with fail
  refine (spanNorm_calls _ x _ hx.out (by omega)).mono ?_
  rintro e w1 ⟨v, rfl, hv, hq⟩
  rw [kn.out] at hv ⊢
  dsimp only at hv ⊢
  obtain ⟨nA, nC, rfl⟩ := hv.read.form
  (try replace hx := Lib.hid (hx.out.ext hq))
  (try replace hy := Lib.hid (hy.out.ext hq))
  (try replace hz := Lib.hid (hz.out.ext hq))
  (try replace hn := Lib.hid (hn.out.ext hq))
  (try replace ho := Lib.hid (ho.out.ext hq))
  (try replace hm := Lib.hid (hm.out.ext hq))
  (try replace hd := Lib.hid (hd.out.ext hq))
  (try replace hp := Lib.hid (hp.out.ext hq))
  (try replace hq2 := Lib.hid (hq2.out.ext hq))
  (try replace hrn := Lib.hid (hrn.out.ext hq))
  (try replace hro := Lib.hid (hro.out.ext hq))
  (try replace hrm := Lib.hid (hrm.out.ext hq))
  (try replace hrd := Lib.hid (hrd.out.ext hq))
  (try replace hwhole := Lib.hid (hwhole.out.ext hq))
  (try replace hnone := Lib.hid (hnone.out.ext hq))
  (try replace honce := Lib.hid (honce.out.ext hq))
  (try replace htwice := Lib.hid (htwice.out.ext hq))
  (try replace hs := Lib.hid (hs.out.ext hq))
  (try replace hagain := Lib.hid (hagain.out.ext hq))
  replace hE := Lib.hid (hE.out.trans hq)
  clear hq
  have hn := Lib.hid hv.read
  clear hv
  go_wp2_with fail
  refine (few_calls _ b _ (hb'.out.ext hE.out)).mono ?_
  rintro e w0 ⟨v, y, rfl, hv, hye, hyl, rfl⟩
  obtain ⟨yA, yC, rfl⟩ := hv.form
  have hy := Lib.hid hv
  clear hv
  obtain ⟨⟨m1, m2⟩, km⟩ : ∃ r, Hid (combT 0 y [] = r) := ⟨_, rfl⟩
  go_wp2_with fail
  refine (spanNorm_calls _ y _ hy.out (by omega)).mono ?_
  rintro e w2 ⟨v, rfl, hv, hq⟩
  rw [km.out] at hv ⊢
  dsimp only at hv ⊢
  obtain ⟨mA, mC, rfl⟩ := hv.read.form
  (try replace hx := Lib.hid (hx.out.ext hq))
  (try replace hy := Lib.hid (hy.out.ext hq))
  (try replace hz := Lib.hid (hz.out.ext hq))
  (try replace hn := Lib.hid (hn.out.ext hq))
  (try replace ho := Lib.hid (ho.out.ext hq))
  (try replace hm := Lib.hid (hm.out.ext hq))
  (try replace hd := Lib.hid (hd.out.ext hq))
  (try replace hp := Lib.hid (hp.out.ext hq))
  (try replace hq2 := Lib.hid (hq2.out.ext hq))
  (try replace hrn := Lib.hid (hrn.out.ext hq))
  (try replace hro := Lib.hid (hro.out.ext hq))
  (try replace hrm := Lib.hid (hrm.out.ext hq))
  (try replace hrd := Lib.hid (hrd.out.ext hq))
  (try replace hwhole := Lib.hid (hwhole.out.ext hq))
  (try replace hnone := Lib.hid (hnone.out.ext hq))
  (try replace honce := Lib.hid (honce.out.ext hq))
  (try replace htwice := Lib.hid (htwice.out.ext hq))
  (try replace hs := Lib.hid (hs.out.ext hq))
  (try replace hagain := Lib.hid (hagain.out.ext hq))
  replace hE := Lib.hid (hE.out.trans hq)
  clear hq
  have hm := Lib.hid hv.read
  clear hv
  have hcase : (n2 = 1) ∨ (n2 = 0 ∧ m2 = 1) ∨ (n2 = 0 ∧ m2 = 0 ∧ normalB n1 = true ∧ normalB m1 = true ∧ n1.length ≤ 60 ∧ m1.length ≤ 60) := by
    have a1 := kn.out
    have a2 := km.out
    cases hrx : rangedB x with
    | false =>
      rw [combT_no (by rw [hrx]; rfl)] at a1
      cases a1
      exact Or.inl rfl
    | true =>
      rw [combT_ok hrx rfl] at a1
      cases a1
      cases hry : rangedB y with
      | false =>
        rw [combT_no (by rw [hry]; rfl)] at a2
        cases a2
        exact Or.inr (Or.inl ⟨rfl, rfl⟩)
      | true =>
        rw [combT_ok hry rfl] at a2
        cases a2
        refine Or.inr (Or.inr ⟨rfl, rfl, comb_normal hrx rfl, comb_normal hry rfl, ?_, ?_⟩)
        · have := comb_len 0 x []; simp at this; omega
        · have := comb_len 0 y []; simp at this; omega
  clear kn km ha' hb' hxe hye hxl hyl
  rcases hcase with rfl | ⟨rfl, rfl⟩ | ⟨rfl, rfl, nx, ny, lx, ly⟩
  · skip
    go_wp2
    go_ret
    exact ⟨rfl, hE.out⟩
  · skip
    go_wp2
    go_ret
    exact ⟨rfl, hE.out⟩
  · have rx : rangedB n1 = true := by simp only [normalB, Bool.and_eq_true] at nx; exact nx.2
    have ry : rangedB m1 = true := by simp only [normalB, Bool.and_eq_true] at ny; exact ny.2
    have cx : chainB none n1 = true := by simp only [normalB, Bool.and_eq_true] at nx; exact nx.1
    obtain ⟨o1, ho1⟩ : ∃ o1, Hid (combL 0 n1 m1 = o1) := ⟨_, rfl⟩
    obtain ⟨d1, hd1⟩ : ∃ d1, Hid (combL 1 n1 m1 = d1) := ⟨_, rfl⟩
    have ko : Hid (combT 0 n1 m1 = (o1, 0)) := Lib.hid (by rw [combT_ok rx ry, ho1.out])
    have kd : Hid (combT 1 n1 m1 = (d1, 0)) := Lib.hid (by rw [combT_ok rx ry, hd1.out])
    obtain ⟨p0, p1⟩ := total_bd' nx
    obtain ⟨q0, q1⟩ := total_bd' ny
    obtain ⟨r0, r1⟩ := total_bd' (comb_normal (k := 0) rx ry)
    obtain ⟨s0, s1⟩ := total_bd' (comb_normal (k := 1) rx ry)
    have hadd := totals_add nx ny
    have hlen := total_len cx
    have tp := totalT_ok nx
    have tq := totalT_ok ny
    have tr := totalT_ok (comb_normal (k := 0) rx ry)
    have ts := totalT_ok (comb_normal (k := 1) rx ry)
    rw [ho1.out] at r0 r1 tr hadd
    rw [hd1.out] at s0 s1 ts hadd
    generalize totalL n1 = p at *
    generalize totalL m1 = q at *
    generalize totalL o1 = r at *
    generalize totalL d1 = s at *
    have tp := Lib.hid tp
    have tq := Lib.hid tq
    have tr := Lib.hid tr
    have ts := Lib.hid ts
    have hadd' : (p + q == r + s) = true := by rw [beq_iff_eq]; exact hadd
    have hlen' : decide ((n1.length : Int) ≤ p) = true := decide_eq_true hlen
    clear nx ny rx ry cx ho1 hd1 hadd
    go_wp2_with fail
    refine (spanUnion_calls _ _ n1 m1 _ hn.out hm.out (by omega) (by omega)).mono ?_
    rintro e w3 ⟨v, rfl, hv, hq⟩
    rw [ko.out] at hv ⊢
    dsimp only at hv ⊢
    obtain ⟨oA, oC, rfl⟩ := hv.read.form
    (try replace hx := Lib.hid (hx.out.ext hq))
    (try replace hy := Lib.hid (hy.out.ext hq))
    (try replace hz := Lib.hid (hz.out.ext hq))
    (try replace hn := Lib.hid (hn.out.ext hq))
    (try replace ho := Lib.hid (ho.out.ext hq))
    (try replace hm := Lib.hid (hm.out.ext hq))
    (try replace hd := Lib.hid (hd.out.ext hq))
    (try replace hp := Lib.hid (hp.out.ext hq))
    (try replace hq2 := Lib.hid (hq2.out.ext hq))
    (try replace hrn := Lib.hid (hrn.out.ext hq))
    (try replace hro := Lib.hid (hro.out.ext hq))
    (try replace hrm := Lib.hid (hrm.out.ext hq))
    (try replace hrd := Lib.hid (hrd.out.ext hq))
    (try replace hwhole := Lib.hid (hwhole.out.ext hq))
    (try replace hnone := Lib.hid (hnone.out.ext hq))
    (try replace honce := Lib.hid (honce.out.ext hq))
    (try replace htwice := Lib.hid (htwice.out.ext hq))
    (try replace hs := Lib.hid (hs.out.ext hq))
    (try replace hagain := Lib.hid (hagain.out.ext hq))
    replace hE := Lib.hid (hE.out.trans hq)
    clear hq
    have ho := Lib.hid hv.read
    clear hv
    go_wp2_with fail
    refine (spanMeet_calls _ _ n1 m1 _ hn.out hm.out (by omega) (by omega)).mono ?_
    rintro e w4 ⟨v, rfl, hv, hq⟩
    rw [kd.out] at hv ⊢
    dsimp only at hv ⊢
    obtain ⟨dA, dC, rfl⟩ := hv.read.form
    (try replace hx := Lib.hid (hx.out.ext hq))
    (try replace hy := Lib.hid (hy.out.ext hq))
    (try replace hz := Lib.hid (hz.out.ext hq))
    (try replace hn := Lib.hid (hn.out.ext hq))
    (try replace ho := Lib.hid (ho.out.ext hq))
    (try replace hm := Lib.hid (hm.out.ext hq))
    (try replace hd := Lib.hid (hd.out.ext hq))
    (try replace hp := Lib.hid (hp.out.ext hq))
    (try replace hq2 := Lib.hid (hq2.out.ext hq))
    (try replace hrn := Lib.hid (hrn.out.ext hq))
    (try replace hro := Lib.hid (hro.out.ext hq))
    (try replace hrm := Lib.hid (hrm.out.ext hq))
    (try replace hrd := Lib.hid (hrd.out.ext hq))
    (try replace hwhole := Lib.hid (hwhole.out.ext hq))
    (try replace hnone := Lib.hid (hnone.out.ext hq))
    (try replace honce := Lib.hid (honce.out.ext hq))
    (try replace htwice := Lib.hid (htwice.out.ext hq))
    (try replace hs := Lib.hid (hs.out.ext hq))
    (try replace hagain := Lib.hid (hagain.out.ext hq))
    replace hE := Lib.hid (hE.out.trans hq)
    clear hq
    have hd := Lib.hid hv.read
    clear hv
    go_wp2_with fail
    refine (spanTotal_calls _ n1 _ hn.out).mono ?_
    rw [tp.out]
    rintro e w5 ⟨rfl, hq⟩
    (try replace hx := Lib.hid (hx.out.ext hq))
    (try replace hy := Lib.hid (hy.out.ext hq))
    (try replace hz := Lib.hid (hz.out.ext hq))
    (try replace hn := Lib.hid (hn.out.ext hq))
    (try replace ho := Lib.hid (ho.out.ext hq))
    (try replace hm := Lib.hid (hm.out.ext hq))
    (try replace hd := Lib.hid (hd.out.ext hq))
    (try replace hp := Lib.hid (hp.out.ext hq))
    (try replace hq2 := Lib.hid (hq2.out.ext hq))
    (try replace hrn := Lib.hid (hrn.out.ext hq))
    (try replace hro := Lib.hid (hro.out.ext hq))
    (try replace hrm := Lib.hid (hrm.out.ext hq))
    (try replace hrd := Lib.hid (hrd.out.ext hq))
    (try replace hwhole := Lib.hid (hwhole.out.ext hq))
    (try replace hnone := Lib.hid (hnone.out.ext hq))
    (try replace honce := Lib.hid (honce.out.ext hq))
    (try replace htwice := Lib.hid (htwice.out.ext hq))
    (try replace hs := Lib.hid (hs.out.ext hq))
    (try replace hagain := Lib.hid (hagain.out.ext hq))
    replace hE := Lib.hid (hE.out.trans hq)
    clear hq
    go_wp2_with fail
    refine (spanTotal_calls _ m1 _ hm.out).mono ?_
    rw [tq.out]
    rintro e w6 ⟨rfl, hq⟩
    (try replace hx := Lib.hid (hx.out.ext hq))
    (try replace hy := Lib.hid (hy.out.ext hq))
    (try replace hz := Lib.hid (hz.out.ext hq))
    (try replace hn := Lib.hid (hn.out.ext hq))
    (try replace ho := Lib.hid (ho.out.ext hq))
    (try replace hm := Lib.hid (hm.out.ext hq))
    (try replace hd := Lib.hid (hd.out.ext hq))
    (try replace hp := Lib.hid (hp.out.ext hq))
    (try replace hq2 := Lib.hid (hq2.out.ext hq))
    (try replace hrn := Lib.hid (hrn.out.ext hq))
    (try replace hro := Lib.hid (hro.out.ext hq))
    (try replace hrm := Lib.hid (hrm.out.ext hq))
    (try replace hrd := Lib.hid (hrd.out.ext hq))
    (try replace hwhole := Lib.hid (hwhole.out.ext hq))
    (try replace hnone := Lib.hid (hnone.out.ext hq))
    (try replace honce := Lib.hid (honce.out.ext hq))
    (try replace htwice := Lib.hid (htwice.out.ext hq))
    (try replace hs := Lib.hid (hs.out.ext hq))
    (try replace hagain := Lib.hid (hagain.out.ext hq))
    replace hE := Lib.hid (hE.out.trans hq)
    clear hq
    go_wp2_with fail
    refine (spanTotal_calls _ o1 _ ho.out).mono ?_
    rw [tr.out]
    rintro e w7 ⟨rfl, hq⟩
    (try replace hx := Lib.hid (hx.out.ext hq))
    (try replace hy := Lib.hid (hy.out.ext hq))
    (try replace hz := Lib.hid (hz.out.ext hq))
    (try replace hn := Lib.hid (hn.out.ext hq))
    (try replace ho := Lib.hid (ho.out.ext hq))
    (try replace hm := Lib.hid (hm.out.ext hq))
    (try replace hd := Lib.hid (hd.out.ext hq))
    (try replace hp := Lib.hid (hp.out.ext hq))
    (try replace hq2 := Lib.hid (hq2.out.ext hq))
    (try replace hrn := Lib.hid (hrn.out.ext hq))
    (try replace hro := Lib.hid (hro.out.ext hq))
    (try replace hrm := Lib.hid (hrm.out.ext hq))
    (try replace hrd := Lib.hid (hrd.out.ext hq))
    (try replace hwhole := Lib.hid (hwhole.out.ext hq))
    (try replace hnone := Lib.hid (hnone.out.ext hq))
    (try replace honce := Lib.hid (honce.out.ext hq))
    (try replace htwice := Lib.hid (htwice.out.ext hq))
    (try replace hs := Lib.hid (hs.out.ext hq))
    (try replace hagain := Lib.hid (hagain.out.ext hq))
    replace hE := Lib.hid (hE.out.trans hq)
    clear hq
    go_wp2_with fail
    refine (spanTotal_calls _ d1 _ hd.out).mono ?_
    rw [ts.out]
    rintro e w8 ⟨rfl, hq⟩
    (try replace hx := Lib.hid (hx.out.ext hq))
    (try replace hy := Lib.hid (hy.out.ext hq))
    (try replace hz := Lib.hid (hz.out.ext hq))
    (try replace hn := Lib.hid (hn.out.ext hq))
    (try replace ho := Lib.hid (ho.out.ext hq))
    (try replace hm := Lib.hid (hm.out.ext hq))
    (try replace hd := Lib.hid (hd.out.ext hq))
    (try replace hp := Lib.hid (hp.out.ext hq))
    (try replace hq2 := Lib.hid (hq2.out.ext hq))
    (try replace hrn := Lib.hid (hrn.out.ext hq))
    (try replace hro := Lib.hid (hro.out.ext hq))
    (try replace hrm := Lib.hid (hrm.out.ext hq))
    (try replace hrd := Lib.hid (hrd.out.ext hq))
    (try replace hwhole := Lib.hid (hwhole.out.ext hq))
    (try replace hnone := Lib.hid (hnone.out.ext hq))
    (try replace honce := Lib.hid (honce.out.ext hq))
    (try replace htwice := Lib.hid (htwice.out.ext hq))
    (try replace hs := Lib.hid (hs.out.ext hq))
    (try replace hagain := Lib.hid (hagain.out.ext hq))
    replace hE := Lib.hid (hE.out.trans hq)
    clear hq
    have hrd := Lib.hid hn.out.reads
    have hone := Lib.hid (span_one (l := n1))
    have htb := Lib.hid (totalT_bad n1)
    go_wp2_with (at_builtin; refine wpList_append_any _ rfl (.tmp 78) (.tmp 79) _ rfl w8.heap.size 25 j0 _ 2 16 Try.underlying22 hj0 jz0 jz1 jz2 rfl (by decide) (.slice (some ⟨w8.heap.size, 0, none⟩) 1 1) 1 [.int .i64 1, .int .i64 1] rfl (World.ownsRow_lit (e := 25) (size := 2) w8 #[.int .i64 1, .int .i64 1] 1 (Nat.le_refl _) (by unfold maxLen; omega) rfl) w8.heap.size nA n1.length nC _ rfl (hrd.out.alloc (Nat.le_refl _) _) hone.out (by unfold maxLen; omega) (by omega) (by rw [World.size_alloc]; omega) ?_; intro v9 w9 hown9 hg9 hat9; have hq9 : Ext w8 w9 := (((Ext.refl w8).alloc (.cells #[.int .i64 1, .int .i64 1] 25)).grown hg9 (by intro k hk; cases hk; exact Nat.le_refl _)); have hbad : SpansO w9 w8.heap.size v9 ((1, 1) :: n1) := (by unfold SpansO; rw [List.length_cons, Nat.add_comm]; exact hown9); obtain ⟨A9, C9, rfl⟩ := owns_form hown9; have hB9 := Lib.hid hbad.read; have hE9 := Lib.hid (hE.out.trans hq9); clear hown9 hg9 hat9 hbad hq9)
    refine (spanTotal_calls _ ((1, 1) :: n1) _ hB9.out).mono ?_
    rw [htb.out]
    rintro e w10 ⟨rfl, hq⟩
    replace hE := Lib.hid (hE9.out.trans hq)
    clear hq hn hm ho hd hrd
    go_wp2
    go_ret
    exact ⟨rfl, hE.out⟩
end Go.Proofs.Ytfajejelelbmmaa
