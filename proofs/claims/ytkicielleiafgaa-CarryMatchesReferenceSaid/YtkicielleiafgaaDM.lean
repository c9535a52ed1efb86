/- Merged parts: DB, DA, DC, DD, DE, DF, DG, DI, DH. -/
import Derived.Test.YtkicielleiafgaaCO
import Derived.Test.YtkicielleiafgaaRK
import Derived.Test.YtkicielleiafgaaCA
import Derived.Test.YtkicielleiafgaaHE
/- Walks of the reference of carry: validStep, Valid. -/
namespace Go.Proofs.Ytkicielleiafgaa
open Go.RowKit

set_option maxHeartbeats 1600000 in
theorem rValidStep_calls (wv : Value) (t : List WishD) (x y : Int) (w : World) (h : Wishes w wv t) :
    Calls Try.prog 95 #[.agg #[wv], .agg #[.int .i64 x, .int .i64 y]] w fun e w' => e = .returned (.bool (stepOkB t (x, y))) ∧ Ext w w' := by
  obtain ⟨ta, tc, rfl, hn, hc, hat⟩ := h.open
  clear h
  by_cases h1 : x < 0
  · have R : Hid (stepOkB t (x, y) = false) := by show _ = _; simp only [stepOkB, idxB]; rw [show decide (0 ≤ x) = false from decide_eq_false (by omega)]; rfl
    have d1 : decide (x < 0) = true := decide_eq_true h1
    go_enter Try.func95, Try.ntmps95
    go_wp2
    go_ret
    rw [R.out]
    exact ⟨rfl, (by repeat' (first | (with_reducible exact Ext.refl _) | (with_reducible assumption) | (with_reducible refine Ext.drewN ?_ _) | (with_reducible refine Ext.drew ?_) | (with_reducible refine Ext.alloc ?_ _) | (with_reducible refine Ext.trans ?_ (by with_reducible assumption))))⟩
  · have d1 : decide (x < 0) = false := decide_eq_false h1
    by_cases h2 : (t.length : Int) ≤ x
    · have R : Hid (stepOkB t (x, y) = false) := by show _ = _; simp only [stepOkB, idxB]; rw [show decide (x < (t.length : Int)) = false from decide_eq_false (by omega)]; simp
      have d2 : decide ((t.length : Int) ≤ x) = true := decide_eq_true h2
      go_enter Try.func95, Try.ntmps95
      go_wp2
      go_ret
      rw [R.out]
      exact ⟨rfl, (by repeat' (first | (with_reducible exact Ext.refl _) | (with_reducible assumption) | (with_reducible refine Ext.drewN ?_ _) | (with_reducible refine Ext.drew ?_) | (with_reducible refine Ext.alloc ?_ _) | (with_reducible refine Ext.trans ?_ (by with_reducible assumption))))⟩
    · obtain ⟨n, rfl⟩ : ∃ n : Nat, x = n := ⟨x.toNat, by omega⟩
      have hn' : n < t.length := by omega
      have d2 : decide (t.length ≤ n) = false := decide_eq_false (by omega)
      obtain ⟨b1, o1, v, pa, pc, oa, oc, rfl, hb1, dx, ex, g0, g1, g2, gp, go⟩ := hat n hn' w (Ext.refl _)
      have R0 : Hid (stepOkB t ((n : Int), y) = (decide (-1 ≤ y) && decide (y < (v.opts.length : Int)))) := by
        show _ = _
        simp only [stepOkB, Int.toNat_natCast, ex.out, Option.getD_some, idxB_of_lt hn', Bool.true_and]
      clear gp go hat h1 h2
      by_cases h3 : -1 ≤ y
      · have d3 : decide (-1 ≤ y) = true := decide_eq_true h3
        have R : Hid (stepOkB t ((n : Int), y) = decide (y < (v.opts.length : Int))) := by show _ = _; rw [R0.out, d3]; rfl
        go_enter Try.func95, Try.ntmps95
        go_upto_region 3 with (fail)
        refine wp_abs (S := fun W => Ext w W ∧ W.cell? ⟨w.heap.size, 0, none⟩ = some (.slice (some ⟨b1, o1, none⟩) t.length tc) ∧ W.cell? ⟨w.heap.size + 1, 0, none⟩ = some (.int .i64 n) ∧ W.cell? ⟨w.heap.size + 1, 1, none⟩ = some (.int .i64 y)) ⟨by exact (by repeat' (first | (with_reducible exact Ext.refl _) | (with_reducible assumption) | (with_reducible refine Ext.drewN ?_ _) | (with_reducible refine Ext.drew ?_) | (with_reducible refine Ext.alloc ?_ _) | (with_reducible refine Ext.trans ?_ (by with_reducible assumption)))), by simp, by simp, by simp⟩ ?_
        rintro W ⟨hW, c0, c1, c2⟩
        have z0 := After.cell c0
        have z1 := After.cell c1
        have z2 := After.cell c2
        have z3 := After.cell (hW.cell g2)
        clear c0 c1 c2 g0 g1 g2
        refine wp_region_after (by kernel_rfl) (by kernel_rfl) ?_
        repeat (go_big_quiet_step (fail))
        refine wpQuiet_nil ?_
        rintro _ ⟨u, rfl⟩
        go_wp2
        go_ret
        rw [R.out]
        exact ⟨rfl, hW.trans u.ext⟩
      · have d3 : decide (-1 ≤ y) = false := decide_eq_false h3
        have R : Hid (stepOkB t ((n : Int), y) = false) := by show _ = _; rw [R0.out, d3]; rfl
        go_enter Try.func95, Try.ntmps95
        go_upto_region 3 with (fail)
        refine wp_abs (S := fun W => Ext w W ∧ W.cell? ⟨w.heap.size, 0, none⟩ = some (.slice (some ⟨b1, o1, none⟩) t.length tc) ∧ W.cell? ⟨w.heap.size + 1, 0, none⟩ = some (.int .i64 n) ∧ W.cell? ⟨w.heap.size + 1, 1, none⟩ = some (.int .i64 y)) ⟨by exact (by repeat' (first | (with_reducible exact Ext.refl _) | (with_reducible assumption) | (with_reducible refine Ext.drewN ?_ _) | (with_reducible refine Ext.drew ?_) | (with_reducible refine Ext.alloc ?_ _) | (with_reducible refine Ext.trans ?_ (by with_reducible assumption)))), by simp, by simp, by simp⟩ ?_
        rintro W ⟨hW, c0, c1, c2⟩
        have z0 := After.cell c0
        have z1 := After.cell c1
        have z2 := After.cell c2
        have z3 := After.cell (hW.cell g2)
        clear c0 c1 c2 g0 g1 g2
        refine wp_region_after (by kernel_rfl) (by kernel_rfl) ?_
        repeat (go_big_quiet_step (fail))
        refine wpQuiet_nil ?_
        rintro _ ⟨u, rfl⟩
        go_wp2
        go_ret
        rw [R.out]
        exact ⟨rfl, hW.trans u.ext⟩

set_option maxHeartbeats 1600000 in
theorem rValid35_calls (wv sv : Value) (t : List WishD) (l : List (Int × Int)) (w : World) (h : Wishes w wv t) (hs : Spans w sv l) :
    Calls Try.prog 59 #[.agg #[wv], sv] w fun e w' => e = .returned (.int .i64 (stepsT t l)) ∧ Ext w w' := by
  have hT := Lib.hid h
  obtain ⟨ta, tc, rfl⟩ := h.form
  obtain ⟨sa, sc, rfl, hsn, hsc, sat⟩ := hs.open
  have sat' := Lib.hid sat
  clear h hs sat
  obtain ⟨z, hz⟩ : ∃ z, Hid (validT t = z) := ⟨_, rfl⟩
  have hval : Hid (∀ W, Ext w W → Calls Try.prog 61 #[.agg #[.slice ta t.length tc]] W fun e w' => e = .returned (.int .i64 z) ∧ Ext W w') := fun W hW => hz.out ▸ rValid_calls _ t W (hT.out.ext hW)
  go_enter Try.func59, Try.ntmps59
  go_wp2_with fail
  refine (hval.out _ (by repeat' (first | (with_reducible exact Ext.refl _) | (with_reducible assumption) | (with_reducible refine Ext.drewN ?_ _) | (with_reducible refine Ext.drew ?_) | (with_reducible refine Ext.alloc ?_ _) | (with_reducible refine Ext.trans ?_ (by with_reducible assumption))))).mono ?_
  rintro e w1 ⟨rfl, hx1⟩
  have c0 : w1.cell? ⟨w.heap.size, 0, none⟩ = some (.slice ta t.length tc) := hx1.cell (by simp)
  have hW := Lib.hid (((Ext.refl w).alloc (.cells #[.slice ta t.length tc] 27)).trans hx1)
  clear hx1 hval
  by_cases h0 : z = 0
  · have hz0 : (z != 0) = false := by simp [h0]
    have hzv : Hid (validT t = 0) := hz.out.trans h0
    clear hz h0
    go_wp2_with fail
    go_loopw [6] (fun vi wr => ∃ i : Nat, i ≤ l.length ∧ vi = .int .i64 i ∧ Hid (Ext w1 wr) ∧ Hid (l.all (stepOkB t) = (l.drop i).all (stepOkB t))) (fun vi _ => l.length - (intOf vi).toNat)
    case atStart => exact ⟨0, by omega, rfl, Lib.hid (Ext.refl _), rfl⟩
    case round =>
      obtain ⟨i, hi, rfl, hx, hF⟩ := hrel
      have d0 := hx.out.cell c0
      have hxr := Lib.hid (hW.out.trans hx.out)
      by_cases h1 : i < l.length
      · obtain ⟨b1, o1, x, y, rfl, hb3, dx, ex, g1, g2⟩ := sat'.out i h1 wr hxr.out
        obtain ⟨q, hq⟩ : ∃ q, Hid (stepOkB t (x, y) = q) := ⟨_, rfl⟩
        have hst : Hid (∀ W, Ext wr W → Calls Try.prog 95 #[.agg #[.slice ta t.length tc], .agg #[.int .i64 x, .int .i64 y]] W fun e w' => e = .returned (.bool q) ∧ Ext W w') := fun W hh => hq.out ▸ rValidStep_calls _ t x y W (hT.out.ext (hxr.out.trans hh))
        go_upto_region 7 with (fail)
        have z0 := After.cell d0
        have z1 := After.cell g1
        have z2 := After.cell g2
        refine wp_region_after (by kernel_rfl) (by kernel_rfl) ?_
        repeat (go_big_quiet_step (exact After.call _ (hst.out _ (After.ext _))))
        refine wpQuiet_nil ?_
        rintro _ ⟨u, rfl⟩
        have hu := Lib.hid (hx.out.trans u.ext)
        generalize u.world = V at hu ⊢
        clear z0 z1 z2 d0 g1 g2 hst
        cases q with
        | true =>
          have R : Hid (l.all (stepOkB t) = (l.drop (i + 1)).all (stepOkB t)) := by
            show _ = _
            rw [hF.out, dx.out, List.all_cons, hq.out, Bool.true_and]
          clear hF hq
          go_wp2
          go_roundw
          case rel => exact ⟨i + 1, by omega, by go_num, hu, R⟩
          case measure => simp [intOf]; omega
        | false =>
          have R : Hid (stepsT t l = 1) := by
            show _ = _
            have : l.all (stepOkB t) = false := by rw [hF.out, dx.out, List.all_cons, hq.out, Bool.false_and]
            unfold stepsT
            rw [if_pos hzv.out, this]
            rfl
          clear hF hq
          go_wp2
          go_ret
          rw [R.out]
          exact ⟨rfl, hW.out.trans hu.out⟩
      · have hal : Hid (l.all (stepOkB t) = true) := by
          show _ = _
          rw [hF.out, List.drop_of_length_le (by omega)]
          rfl
        clear hF
        by_cases h3 : 1024 < l.length
        · have R : Hid (stepsT t l = 2) := by show _ = _; unfold stepsT; rw [if_pos hzv.out, if_pos hal.out, if_pos h3]
          go_wp2
          go_ret
          rw [R.out]
          exact ⟨rfl, hxr.out⟩
        · have R : Hid (stepsT t l = 0) := by show _ = _; unfold stepsT; rw [if_pos hzv.out, if_pos hal.out, if_neg h3]
          go_wp2
          go_ret
          rw [R.out]
          exact ⟨rfl, hxr.out⟩
  · have hz0 : (z != 0) = true := by simp [h0]
    have R : Hid (stepsT t l = z) := by show _ = _; unfold stepsT; rw [hz.out, if_neg h0]
    clear hz h0
    go_wp2
    go_ret
    rw [R.out]
    exact ⟨rfl, hW.out⟩
end Go.Proofs.Ytkicielleiafgaa

/- Plain words for the reference of carry: what its Calm, Check and next come to. -/
namespace Go.Proofs.Ytkicielleiafgaa
open Go.RowKit

theorem both_low {t : List WishD} {st : List Int} {i k : Nat} (h1 : atI st i ≤ 0) (h2 : atI st k ≤ 0) : busyB t st i k = false := by
  by_cases a : atI st i = 0
  · by_cases b : atI st k = 0
    · exact busy_zero a b
    · refine busy_no ?_
      rw [clashT_comm]
      exact clashT_neg _ _ _ _ _ (by omega)
  · exact busy_no (clashT_neg _ _ _ _ _ (by omega))
theorem not_low {t : List WishD} {st : List Int} {i k : Nat} (h : ¬ (atI st i ≤ 0 ∧ atI st k ≤ 0)) : busyB t st i k = clashT t k (atI st k) i (atI st i) := by
  unfold busyB
  have e : (decide (atI st k ≠ 0) || decide (atI st i ≠ 0)) = true := by
    rw [Bool.or_eq_true, decide_eq_true_iff, decide_eq_true_iff]
    omega
  rw [e, Bool.true_and, clashT_comm]
theorem calm_low {t : List WishD} {st : List Int} : calmB t st = true ↔ ∀ i k, k < i → i < st.length → busyB t st i k = false := by
  simp only [calmB, List.all_eq_true, List.mem_range, Bool.not_eq_true']
  exact ⟨fun h i k hk hi => h i hi k hk, fun h i hi k hk => h i k hk hi⟩
theorem can_calm {t : List WishD} {pick st : List Int} {i : Nat} (h : calmB t st = true) (hi : i < st.length) : canB t pick st i = (!decide (atI st i = atI pick i) && calmB t (st.set i (atI pick i))) := by
  unfold canB
  rw [calm_set h hi]
theorem go_none {t : List WishD} {pick st : List Int} (h : Way t pick st) : goS t pick st = none ↔ st = pick := by
  refine ⟨h.last, fun e => ?_⟩
  subst e
  have h1 : (List.range st.length).find? (canB t st st) = none := by simp [canB]
  have h2 : (List.range st.length).find? (parkB st st) = none := by simp [parkB]
  simp [goS, h1, h2]
theorem okMove_zero {l : List Int} : okMove 0 l = decide (l.length = 0) := by
  cases l <;> simp [okMove]
theorem okMove_none {p : Int} (h : p ≠ 0) : okMove p [] = false := by simp [okMove, h]
theorem okMove_one {p a : Int} (h : p ≠ 0) : okMove p [a] = decide (a = p) := by
  rw [Bool.eq_iff_iff]
  simp [okMove, h]
theorem okMove_two {p a b : Int} (h : p ≠ 0) : okMove p [a, b] = (decide (b = p) && decide (a = -1)) := by
  rw [Bool.eq_iff_iff]
  simp [okMove, h, and_comm]
theorem okMove_more {p : Int} {l : List Int} (h : p ≠ 0) (h2 : 2 < l.length) : okMove p l = false := by
  match l, h2 with
  | a :: b :: c :: l, _ => simp [okMove, h]
theorem okMove_last {p : Int} {l : List Int} (h : p ≠ 0) (h2 : 0 < l.length) (hl : atI l (l.length - 1) ≠ p) : okMove p l = false := by
  match l, h2 with
  | [a], _ => rw [okMove_one h]; exact decide_eq_false (by simpa [atI] using hl)
  | [a, b], _ => rw [okMove_two h, decide_eq_false (by simpa [atI] using hl)]; rfl
  | a :: b :: c :: l, _ => exact okMove_more h (by simp)
theorem okMove_first {p : Int} {l : List Int} (h : p ≠ 0) (h2 : 0 < l.length) (h1 : atI l 0 ≠ p) (hm : atI l 0 ≠ -1) : okMove p l = false := by
  match l, h2 with
  | [a], _ => rw [okMove_one h]; exact decide_eq_false (by simpa [atI] using h1)
  | [a, b], _ => rw [okMove_two h, decide_eq_false (p := a = -1) (by simpa [atI] using hm), Bool.and_false]
  | a :: b :: c :: l, _ => exact okMove_more h (by simp)
theorem okMove_pair {p : Int} {l : List Int} (h : p ≠ 0) (h2 : l.length = 2) (hl : atI l (l.length - 1) = p) : okMove p l = decide (atI l 0 = -1) := by
  match l, h2 with
  | [a, b], _ => 
    rw [okMove_two h, decide_eq_true (p := b = p) (by simpa [atI] using hl), Bool.true_and]
    rfl
theorem okMove_sole {p : Int} {l : List Int} (h : p ≠ 0) (h2 : l.length = 1) (hl : atI l (l.length - 1) = p) : okMove p l = true := by
  match l, h2 with
  | [a], _ => rw [okMove_one h]; exact decide_eq_true (by simpa [atI] using hl)
theorem movesOk_no {pick : List Int} {l : List StepD} {i : Nat} (hi : i < pick.length) (h : okMove (atI pick i) (movesOf l i) = false) : movesOkB pick l = false := by
  cases hb : movesOkB pick l with
  | false => rfl
  | true =>
    simp only [movesOkB, List.all_eq_true, List.mem_range] at hb
    rw [hb i hi] at h
    cases h
theorem movesOk_yes {pick : List Int} {l : List StepD} (h : ∀ i, i < pick.length → okMove (atI pick i) (movesOf l i) = true) : movesOkB pick l = true := by
  simp only [movesOkB, List.all_eq_true, List.mem_range]
  exact h
end Go.Proofs.Ytkicielleiafgaa

/- Walks of the reference of carry: After, Calm. -/
namespace Go.Proofs.Ytkicielleiafgaa
open Go.RowKit

set_option maxHeartbeats 1600000 in
theorem rAfter_calls (wv sv : Value) (t : List WishD) (l : List (Int × Int)) (n : Nat) (w : World) (h : Wishes w wv t) (hs : Spans w sv l) (hok : l.all (stepOkB t) = true) (hb : t.length ≤ 512) (hn : n ≤ l.length) :
    Calls Try.prog 60 #[.agg #[wv], sv, .int .i64 n] w fun e w' => ∃ K, e = .returned (.slice (some ⟨K, 0, none⟩) t.length t.length) ∧ w.heap.size ≤ K ∧ St w' K (stAt t l n) ∧ Ext w w' := by
  obtain ⟨ta, tc, rfl⟩ := h.form
  obtain ⟨sa, sc, rfl, hsn, hsc, sat⟩ := hs.open
  have sat' := Lib.hid sat
  have hok' := Lib.hid hok
  have hmk := run_make_ints t.length (by omega)
  clear h hs sat hok
  go_enter Try.func60, Try.ntmps60
  go_upto_region 2 with (fail)
  refine wp_abs (S := fun W => Hid (Ext w W) ∧ Hid (St W (w.heap.size + 1) (stAt t l 0))) ?_ ?_
  · refine ⟨Lib.hid (by exact (by repeat' (first | (with_reducible exact Ext.refl _) | (with_reducible assumption) | (with_reducible refine Ext.drewN ?_ _) | (with_reducible refine Ext.drew ?_) | (with_reducible refine Ext.alloc ?_ _) | (with_reducible refine Ext.trans ?_ (by with_reducible assumption))))), Lib.hid ?_⟩
    have := St.new (w.alloc (.cells #[.slice ta t.length tc] 27)) t.length
    simpa [stAt, afterS] using this
  rintro W ⟨hW, hSt⟩
  go_wp2_with fail
  go_loopw [8] (fun vi wr => ∃ i : Nat, i ≤ n ∧ vi = .int .i64 i ∧ Hid (Ext w wr) ∧ Hid (St wr (w.heap.size + 1) (stAt t l i))) (fun vi _ => n - (intOf vi).toNat)
  case atStart => exact ⟨0, by omega, rfl, hW, hSt⟩
  case round =>
    clear hSt hW
    obtain ⟨i, hi, rfl, hx, hSt⟩ := hrel
    by_cases h1 : i < n
    · have h1l : i < l.length := by omega
      obtain ⟨b1, o1, x, y, rfl, hb3, dx, ex, g1, g2⟩ := sat'.out i h1l wr hx.out
      obtain ⟨m, hm, hmt⟩ := stepOk_idx (all_at hok'.out ex.out)
      dsimp only at hm
      subst hm
      have hsl := stAt_len t l i
      have hnext : Hid (stAt t l (i + 1) = (stAt t l i).set m y) := by
        show _ = _
        unfold stAt
        rw [take_step ex.out, afterS_snoc]
        simp [stepS]
      have hml : m < (stAt t l i).length := by omega
      go_upto_region 5 with (fail)
      have z1 := After.cell g1
      have z2 := After.cell g2
      clear g1 g2
      refine wp_region_tail 12 (by kernel_rfl) (by kernel_rfl) ?_
      simp only [List.take_succ_cons, List.take_zero, List.drop_succ_cons, List.drop_zero]
      repeat (go_big_quiet_step (fail))
      refine wpQuiet_nil ?_
      rintro _ ⟨u, rfl⟩
      have hu := u.ext
      generalize u.world = V at hu ⊢
      clear z1 z2
      have hSV := hSt.out.ext hu
      have hlt := hSV.lt
      have m1 := hSV.cell hml
      have m2 := hSV.frozen m
      have hSn : Hid (St (V.setCell ⟨w.heap.size + 1, m, none⟩ (.int .i64 y)) (w.heap.size + 1) (stAt t l (i + 1))) := by rw [hnext.out]; exact hSV.set_ m y
      have hxn : Hid (Ext w (V.setCell ⟨w.heap.size + 1, m, none⟩ (.int .i64 y))) := Lib.hid ((hx.out.trans hu).setCell (Nat.le_succ _) _)
      clear hSt hx hnext hSV
      go_wp2
      go_roundw
      case rel => exact ⟨i + 1, by omega, by go_num, hxn, hSn⟩
      case measure => simp [intOf]; omega
    · obtain rfl : i = n := by omega
      go_wp2
      go_ret
      exact ⟨_, rfl, by omega, hSt.out, hx.out⟩

set_option maxHeartbeats 3200000 in
set_option maxRecDepth 100000 in
theorem rCalm_calls (wv sv : Value) (t : List WishD) (st : List Int) (w : World) (h : Wishes w wv t) (hs : Ints w sv st) (hv : validT t = 0) :
    Calls Try.prog 64 #[.agg #[wv], sv] w fun e w' => e = .returned (.bool (calmB t st)) ∧ Ext w w' := by
  have hT := Lib.hid h
  obtain ⟨ta, tc, rfl⟩ := h.form
  obtain ⟨sa, sc, rfl, hsn, hsc, hat⟩ := hs.open
  have hat' := Lib.hid hat
  have hv' := Lib.hid hv
  clear h hs hat hv
  go_enter Try.func64, Try.ntmps64
  go_wp2_with fail
  refine wp_abs (S := fun W => Hid (Ext w W) ∧ Hid (Blk W w.heap.size 27 #[.slice ta t.length tc])) ?_ ?_
  · exact ⟨Lib.hid (by exact (by repeat' (first | (with_reducible exact Ext.refl _) | (with_reducible assumption) | (with_reducible refine Ext.drewN ?_ _) | (with_reducible refine Ext.drew ?_) | (with_reducible refine Ext.alloc ?_ _) | (with_reducible refine Ext.trans ?_ (by with_reducible assumption))))), Lib.hid (blk_new' rfl rfl)⟩
  rintro W1 ⟨hx1, hB1⟩
  go_loopw [5, 6] (fun vi _ wr => ∃ i : Nat, i ≤ st.length ∧ vi = .int .i64 i ∧ Hid (Ext w wr) ∧ Hid (Blk wr w.heap.size 27 #[.slice ta t.length tc]) ∧ Hid (∀ j d, j < d → d < i → busyB t st d j = false)) (fun vi _ _ => st.length - (intOf vi).toNat)
  case atStart => exact ⟨0, by omega, rfl, hx1, hB1, fun j d _ h => by omega⟩
  case round =>
    clear hx1 hB1
    obtain ⟨i, hi, rfl, hx, hB, hF⟩ := hrel
    by_cases h1 : i < st.length
    · obtain ⟨w0, hw0⟩ : ∃ w0 : World, Hid (wr = w0) := ⟨_, rfl⟩
      go_wp2_with fail
      rw [hw0.out] at hx hB
      rw [hw0.out]
      clear hw0
      go_loopw [6] (fun vk wk => ∃ k : Nat, k ≤ i ∧ vk = .int .i64 k ∧ Hid (Ext w0 wk) ∧ Hid (Blk wk w.heap.size 27 #[.slice ta t.length tc]) ∧ Hid (∀ j, j < k → busyB t st i j = false)) (fun vk _ => i - (intOf vk).toNat)
      case atStart => exact ⟨0, by omega, rfl, Lib.hid (Ext.refl _), hB, fun j h => by omega⟩
      case round =>
        clear hB
        obtain ⟨k, hk, rfl, hx3, hB3, hG⟩ := hrel
        have hxr := Lib.hid (hx.out.trans hx3.out)
        by_cases q1 : k < i
        · have hkp : k < st.length := by omega
          obtain ⟨b1, o1, x, e1, hb1, _, ex, k0⟩ := hat'.out i h1 wr hxr.out
          obtain ⟨b2, o2, y, rfl, hb2, _, ey, k1⟩ := hat'.out k hkp wr hxr.out
          cases e1
          have hxi : Hid (atI st i = x) := atI_some ex.out
          have hyk : Hid (atI st k = y) := atI_some ey.out
          have c0 : wr.cell? ⟨w.heap.size, 0, none⟩ = some (.slice ta t.length tc) := hB3.out.cell 0
          clear ex ey
          by_cases lx : x ≤ 0
          · have dx : decide (x ≤ 0) = true := decide_eq_true lx
            by_cases ly : y ≤ 0
            · have dy : decide (y ≤ 0) = true := decide_eq_true ly
              have R : Hid (∀ j, j < k + 1 → busyB t st i j = false) := fun j hj => by
                rcases Nat.lt_succ_iff_lt_or_eq.1 hj with h | rfl
                · exact hG.out j h
                · exact both_low (by rw [hxi.out]; exact lx) (by rw [hyk.out]; exact ly)
              clear hF hG hxi hyk
              go_wp2
              go_roundw
              case rel => exact ⟨k + 1, by omega, by go_num, hx3, hB3, R⟩
              case measure => simp [intOf]; omega
            · have dy : decide (y ≤ 0) = false := decide_eq_false ly
              obtain ⟨z, hz⟩ : ∃ z, Hid (busyB t st i k = z) := ⟨_, rfl⟩
              have hcz : Hid (clashT t k y i x = z) := by
                have := not_low (t := t) (st := st) (i := i) (k := k) (by rw [hxi.out, hyk.out]; omega)
                show _ = _
                rw [← hz.out, this, hxi.out, hyk.out]
              have hcl : Hid (∀ W, Ext wr W → Calls Try.prog 98 #[.agg #[.slice ta t.length tc], .agg #[.int .i64 (k : Int), .int .i64 y], .agg #[.int .i64 (i : Int), .int .i64 x]] W fun e w' => e = .returned (.bool z) ∧ Ext W w') := fun W hW => (rMeets_calls _ t k y i x W (hT.out.ext (hxr.out.trans hW)) hv'.out).mono (by rintro e w' ⟨rfl, hh⟩; rw [hcz.out]; exact ⟨rfl, hh⟩)
              clear hxi hyk hcz
              go_upto_region 8 with (fail)
              have z0 := After.cell c0
              have z1 := After.cell k0
              have z2 := After.cell k1
              refine wp_region_after (by kernel_rfl) (by kernel_rfl) ?_
              repeat (go_big_quiet_step (exact After.call _ (hcl.out _ (After.ext _))))
              refine wpQuiet_nil ?_
              rintro _ ⟨u, rfl⟩
              have hu := u.ext
              generalize u.world = V at hu ⊢
              clear z0 z1 z2 c0 k0 k1
              cases z with
              | true =>
                have R : Hid (calmB t st = false) := by
                  show _ = _
                  cases hf : calmB t st with
                  | false => rfl
                  | true => have := calm_low.1 hf i k q1 h1; rw [hz.out] at this; cases this
                clear hF hG hz
                go_wp2
                go_ret
                rw [R.out]
                exact ⟨rfl, hxr.out.trans hu⟩
              | false =>
                have R : Hid (∀ j, j < k + 1 → busyB t st i j = false) := fun j hj => by
                  rcases Nat.lt_succ_iff_lt_or_eq.1 hj with h | rfl
                  · exact hG.out j h
                  · exact hz.out
                clear hF hG hz
                go_wp2
                go_roundw
                case rel => exact ⟨k + 1, by omega, by go_num, Lib.hid (hx3.out.trans hu), Lib.hid ((Keep.of_ext (X := fun _ => False) hu).blk hB3.out id), R⟩
                case measure => simp [intOf]; omega
          · have dx : decide (x ≤ 0) = false := decide_eq_false lx
            obtain ⟨z, hz⟩ : ∃ z, Hid (busyB t st i k = z) := ⟨_, rfl⟩
            have hcz : Hid (clashT t k y i x = z) := by
              have := not_low (t := t) (st := st) (i := i) (k := k) (by rw [hxi.out, hyk.out]; omega)
              show _ = _
              rw [← hz.out, this, hxi.out, hyk.out]
            have hcl : Hid (∀ W, Ext wr W → Calls Try.prog 98 #[.agg #[.slice ta t.length tc], .agg #[.int .i64 (k : Int), .int .i64 y], .agg #[.int .i64 (i : Int), .int .i64 x]] W fun e w' => e = .returned (.bool z) ∧ Ext W w') := fun W hW => (rMeets_calls _ t k y i x W (hT.out.ext (hxr.out.trans hW)) hv'.out).mono (by rintro e w' ⟨rfl, hh⟩; rw [hcz.out]; exact ⟨rfl, hh⟩)
            clear hxi hyk hcz
            go_upto_region 8 with (fail)
            have z0 := After.cell c0
            have z1 := After.cell k0
            have z2 := After.cell k1
            refine wp_region_after (by kernel_rfl) (by kernel_rfl) ?_
            repeat (go_big_quiet_step (exact After.call _ (hcl.out _ (After.ext _))))
            refine wpQuiet_nil ?_
            rintro _ ⟨u, rfl⟩
            have hu := u.ext
            generalize u.world = V at hu ⊢
            clear z0 z1 z2 c0 k0 k1
            cases z with
            | true =>
              have R : Hid (calmB t st = false) := by
                show _ = _
                cases hf : calmB t st with
                | false => rfl
                | true => have := calm_low.1 hf i k q1 h1; rw [hz.out] at this; cases this
              clear hF hG hz
              go_wp2
              go_ret
              rw [R.out]
              exact ⟨rfl, hxr.out.trans hu⟩
            | false =>
              have R : Hid (∀ j, j < k + 1 → busyB t st i j = false) := fun j hj => by
                rcases Nat.lt_succ_iff_lt_or_eq.1 hj with h | rfl
                · exact hG.out j h
                · exact hz.out
              clear hF hG hz
              go_wp2
              go_roundw
              case rel => exact ⟨k + 1, by omega, by go_num, Lib.hid (hx3.out.trans hu), Lib.hid ((Keep.of_ext (X := fun _ => False) hu).blk hB3.out id), R⟩
              case measure => simp [intOf]; omega
        · have R : Hid (∀ j d, j < d → d < i + 1 → busyB t st d j = false) := fun j d hj hd => by
            rcases Nat.lt_succ_iff_lt_or_eq.1 hd with h | rfl
            · exact hF.out j d hj h
            · exact hG.out j (by omega)
          clear hF hG
          go_wp2
          go_roundw
          case rel => exact ⟨i + 1, by omega, by go_num, hxr, hB3, R⟩
          case measure => simp [intOf]; omega
    · have R : Hid (calmB t st = true) := calm_low.2 fun d j h2 h3 => hF.out j d h2 (by omega)
      clear hF
      go_wp2
      go_ret
      rw [R.out]
      exact ⟨rfl, hx.out⟩
end Go.Proofs.Ytkicielleiafgaa

/- Walks of the reference of carry: stepsOf, States. -/
namespace Go.Proofs.Ytkicielleiafgaa
open Go.RowKit

theorem movesOf_take {l : List StepD} {i n : Nat} {x y : Int} (h : l[i]? = some (x, y)) : movesOf (l.take (i + 1)) n = if x = (n : Int) then movesOf (l.take i) n ++ [y] else movesOf (l.take i) n := by
  rw [take_step h, movesOf_snoc]
set_option maxHeartbeats 1600000 in
set_option maxRecDepth 100000 in
theorem rStepsOf_calls (sv : Value) (l : List (Int × Int)) (n : Nat) (w : World) (hs : Spans w sv l) (hl : l.length ≤ 1024) :
    Calls Try.prog 63 #[sv, .int .i64 n] w fun e w' => ∃ v, e = .returned v ∧ Ints w' v (movesOf l n) ∧ Ext w w' := by
  obtain ⟨sa, sc, rfl, hsn, hsc, sat⟩ := hs.open
  have sat' := Lib.hid sat
  clear hs sat
  obtain ⟨j0, hj0, jz0, jz1, jz2⟩ := info_parts int_info
  go_enter Try.func63, Try.ntmps63
  go_wp2_with fail
  have hO0 := Lib.hid (World.ownsRow_made (e := 3) (size := 1) w #[] 0 (Nat.le_refl _) (by unfold maxLen; omega) rfl)
  have hE0 := Lib.hid ((Ext.refl w).alloc (.cells #[] 3))
  go_loopw [5, 6] (fun v5 v6 wr => ∃ (i m : Nat) (A : Option Addr) (C : Nat), i ≤ l.length ∧ v5 = .slice A m C ∧ v6 = .int .i64 i ∧ m ≤ i ∧ Hid (Ext w wr) ∧ Hid (wr.ownsRow w.heap.size 3 1 (.slice A m C) m ((movesOf (l.take i) n).map (Value.int .i64)))) (fun _ v6 _ => l.length - (intOf v6).toNat)
  case atStart => exact ⟨0, 0, _, _, by omega, rfl, rfl, by omega, hE0, hO0⟩
  case round =>
    clear hO0 hE0
    obtain ⟨i, m, A, C, hi, rfl, rfl, hm, hx, hO⟩ := hrel
    by_cases h1 : i < l.length
    · obtain ⟨b1, o1, x, y, rfl, hb3, dx, ex, g1, g2⟩ := sat'.out i h1 wr hx.out
      have hnext := Lib.hid (movesOf_take (n := n) ex.out)
      clear dx ex
      by_cases hxn : x = (n : Int)
      · have d1 : (x == (n : Int)) = true := by rw [beq_iff_eq]; exact hxn
        have R : Hid (movesOf (l.take (i + 1)) n = movesOf (l.take i) n ++ [y]) := hnext.out.trans (if_pos hxn)
        clear hnext hxn
        go_wp2_with (at_builtin; refine wpList_append_any _ rfl (.tmp 21) (.tmp 27) _ rfl w.heap.size 3 j0 _ 1 8 Try.underlying29 hj0 jz0 jz1 jz2 rfl (by decide) (.slice A m C) m _ rfl (hO.out.alloc _) (wr.heap.size + 1) (some ⟨wr.heap.size, 0, none⟩) 1 1 [.int .i64 y] rfl (reads_last _ #[_] _ 1 1 _ _ (by simp) (by omega) rfl) (one_int _) (by unfold maxLen; omega) (by omega) (by rw [World.size_alloc]; have := hx.out.size; omega) ?_; intro v5 w5 hown5 hg5 hat5; obtain ⟨A5, C5, rfl⟩ := owns_form hown5)
        have hO5 : Hid (w5.ownsRow w.heap.size 3 1 (.slice A5 (m + 1) C5) (m + 1) ((movesOf (l.take (i + 1)) n).map (Value.int .i64))) := by
          rw [R.out, List.map_append]
          exact hown5
        have hx5 : Hid (Ext w w5) := Lib.hid ((hx.out.alloc (.cells #[.int .i64 y] 3)).grown hg5 (fun g hg => (hO.out.lt g hg).1))
        clear hown5 hg5 hat5 hO hx R
        go_wp2
        go_roundw
        case rel => exact ⟨i + 1, m + 1, A5, C5, by omega, rfl, by go_num, by omega, hx5, hO5⟩
        case measure => simp [intOf]; omega
      · have d1 : (x == (n : Int)) = false := by rw [beq_eq_false_iff_ne]; exact hxn
        have R : Hid (movesOf (l.take (i + 1)) n = movesOf (l.take i) n) := hnext.out.trans (if_neg hxn)
        rw [← R.out] at hO
        clear hnext hxn R
        go_wp2
        go_roundw
        case rel => exact ⟨i + 1, m, A, C, by omega, rfl, by go_num, by omega, hx, hO⟩
        case measure => simp [intOf]; omega
    · have hfin : Hid (movesOf (l.take i) n = movesOf l n) := by show _ = _; rw [List.take_of_length_le (by omega)]
      rw [hfin.out] at hO
      clear hfin
      go_wp2
      go_ret
      refine ⟨_, rfl, ?_, hx.out⟩
      obtain ⟨k, hk⟩ : ∃ k, k = (movesOf l n).length := ⟨_, rfl⟩
      have hmk : m = k := by have := hO.out.1; rw [List.length_map] at this; omega
      refine IntsO.read (B := w.heap.size) ?_
      show wr.ownsRow _ _ _ _ (movesOf l n).length _
      rw [← hk, ← hmk]
      exact hO.out

set_option maxHeartbeats 1600000 in
set_option maxRecDepth 100000 in
theorem rStates_calls (wv sv : Value) (t : List WishD) (l : List (Int × Int)) (w : World) (h : Wishes w wv t) (hs : Spans w sv l) :
    Calls Try.prog 24 #[.agg #[wv], sv] w fun e w' => ∃ v, e = .returned (.tuple #[v, .int .i64 (statesS t l).2]) ∧ IntRows w' v (statesS t l).1 ∧ Ext w w' := by
  have hT := Lib.hid h
  have hS := Lib.hid hs
  obtain ⟨ta, tc, rfl⟩ := h.form
  obtain ⟨sa, sc, rfl⟩ := hs.form
  have ll := hs.len
  clear h hs
  obtain ⟨z, hz⟩ : ∃ z, Hid (stepsT t l = z) := ⟨_, rfl⟩
  have hval : Hid (∀ W, Ext w W → Calls Try.prog 59 #[.agg #[.slice ta t.length tc], .slice sa l.length sc] W fun e w' => e = .returned (.int .i64 z) ∧ Ext W w') := fun W hW => hz.out ▸ rValid35_calls _ _ t l W (hT.out.ext hW) (hS.out.ext hW)
  obtain ⟨j0, hj0, jz0, jz1, jz2⟩ := info_parts ints_info
  go_enter Try.func24, Try.ntmps24
  go_wp2_with fail
  refine (hval.out _ (by repeat' (first | (with_reducible exact Ext.refl _) | (with_reducible assumption) | (with_reducible refine Ext.drewN ?_ _) | (with_reducible refine Ext.drew ?_) | (with_reducible refine Ext.alloc ?_ _) | (with_reducible refine Ext.trans ?_ (by with_reducible assumption))))).mono ?_
  rintro e w1 ⟨rfl, hx1⟩
  have hC1 : Hid (Blk w1 w.heap.size 27 #[.slice ta t.length tc]) := Lib.hid ((Keep.of_ext (X := fun _ => False) hx1).blk (blk_new' rfl rfl) id)
  have hW := Lib.hid (((Ext.refl w).alloc (.cells #[.slice ta t.length tc] 27)).trans hx1)
  clear hx1 hval
  by_cases h0 : z = 0
  · have hz0 : (z != 0) = false := by simp [h0]
    obtain ⟨hv, hok, hll⟩ := stepsT_ok (hz.out.trans h0)
    have hok' := Lib.hid hok
    obtain ⟨hb1, hb2⟩ := stepsT_bd hv
    have hst : Hid (stepsT t l = 0) := hz.out.trans h0
    clear hz h0 hv hok
    have hsw := hW.out.size
    have hO0 := Lib.hid (owns_base (World.ownsRow_made (e := 29) (size := 1) w1 #[] 0 (Nat.le_refl _) (by unfold maxLen; omega) rfl) hsw)
    have hE0 := Lib.hid (hW.out.alloc (.cells #[] 29))
    have hK0 : Hid (KeptRows (w1.alloc (.cells #[] 29)) w.heap.size [] (trailTo t l 0)) := Lib.hid ⟨rfl, fun j st hj => by simp [trailTo] at hj⟩
    have hC0 : Hid (Blk (w1.alloc (.cells #[] 29)) w.heap.size 27 #[.slice ta t.length tc]) := Lib.hid (hC1.out.alloc _)
    clear hC1
    go_wp2_with fail
    go_loopw [7, 8] (fun v7 v8 wr => ∃ (i : Nat) (A : Option Addr) (C : Nat) (xs : List Value), i ≤ l.length + 1 ∧ v7 = .slice A i C ∧ v8 = .int .i64 i ∧ Hid (Ext w wr) ∧ Hid (wr.ownsRow w.heap.size 29 1 (.slice A i C) i xs) ∧ Hid (KeptRows wr w.heap.size xs (trailTo t l i)) ∧ Hid (Blk wr w.heap.size 27 #[.slice ta t.length tc])) (fun _ v8 _ => l.length + 1 - (intOf v8).toNat)
    case atStart => exact ⟨0, _, _, _, by omega, rfl, rfl, hE0, hO0, hK0, hC0⟩
    case round =>
      clear hO0 hE0 hK0 hC0
      obtain ⟨i, A, C, xs, hi, rfl, rfl, hx, hO, hK, hC⟩ := hrel
      by_cases h1 : i ≤ l.length
      · have d1 : decide (i ≤ l.length) = true := decide_eq_true h1
        have c0 : wr.cell? ⟨w.heap.size, 0, none⟩ = some (.slice ta t.length tc) := hC.out.cell 0
        have haf := Lib.hid (rAfter_calls _ _ t l i wr (hT.out.ext hx.out) (hS.out.ext hx.out) hok'.out hb2 h1)
        go_wp2_with fail
        refine haf.out.mono ?_
        rintro e w3 ⟨K, rfl, hKb, hStK, hx3⟩
        have hwr := hx.out.size
        have hsz3 := hx3.size
        have hsl := stAt_len t l i
        have hO3 := Lib.hid (owns_ext hO.out hx3)
        have hK3 := Lib.hid (hK.out.ext hx3)
        have hC3 := Lib.hid ((Keep.of_ext (X := fun _ => False) hx3).blk hC.out id)
        have hE3 := Lib.hid (hx.out.trans hx3)
        have hS3 := Lib.hid hStK
        clear haf hStK hx3 hO hK hC hx c0
        go_wp2_with (at_builtin; refine wpList_append_any _ rfl (.tmp 22) (.tmp 27) _ rfl w.heap.size 29 j0 _ 1 24 Try.underlying49 hj0 jz0 jz1 jz2 rfl (by decide) (.slice A i C) i xs rfl (hO3.out.alloc _) (w3.heap.size + 1) (some ⟨w3.heap.size, 0, none⟩) 1 1 [.slice (some ⟨K, 0, none⟩) t.length t.length] rfl (reads_last _ #[_] _ 1 1 _ _ (by simp) (by omega) rfl) (by simp [Value.oneCell']) (by unfold maxLen; omega) (by omega) (by rw [World.size_alloc]; omega) ?_; intro v5 w5 hown5 hg5 _; obtain ⟨A5, C5, rfl⟩ := owns_form hown5)
        have kp : Keep (fun x => (Value.slice A i C).ownBlock = some x) (w3.alloc (.cells #[.slice (some ⟨K, 0, none⟩) t.length t.length] 29)) w5 := (Keep.refl _ _).grown hg5 (fun g e => Or.inl e)
        have hblk : ∀ g, (Value.slice A i C).ownBlock = some g → ∃ cs, Blk (w3.alloc (.cells #[.slice (some ⟨K, 0, none⟩) t.length t.length] 29)) g 29 cs := fun g e => owns_block (hO3.out.alloc _) e
        have hX3 : Ext w3 (w3.alloc (.cells #[.slice (some ⟨K, 0, none⟩) t.length t.length] 29)) := (Ext.refl w3).alloc _
        have hK5 : Hid (KeptRows w5 w.heap.size (xs ++ [.slice (some ⟨K, 0, none⟩) t.length t.length]) (trailTo t l (i + 1))) := by
          have h1 := (hK3.out.ext hX3).push (st := stAt t l i) (K := K) (by omega) (hS3.out.ext hX3) (by rw [hsl]; unfold maxLen; omega)
          rw [hsl] at h1
          rw [trailTo_step]
          refine Lib.hid (h1.keep kp (fun K st' _ hSK e => ?_))
          obtain ⟨cs', hb⟩ := hblk _ e
          exact absurd (blk_type hb hSK) (by decide)
        have hx5 : Hid (Ext w w5) := Lib.hid ((hE3.out.trans hX3).grown hg5 (fun g e => (hO3.out.lt g e).1))
        have hC5 : Hid (Blk w5 w.heap.size 27 #[.slice ta t.length tc]) := Lib.hid (kp.blk (hC3.out.alloc _) (fun e => by
          obtain ⟨cs', hb⟩ := hblk _ e
          exact absurd (blk_type hb (hC3.out.alloc _)) (by decide)))
        have hO5 := Lib.hid hown5
        clear hown5 hg5 kp hblk hX3 hO3 hK3 hC3 hE3 hS3 hsl
        go_wp2
        go_roundw
        case rel => exact ⟨i + 1, A5, C5, _, by omega, rfl, by go_num, hx5, hO5, hK5, hC5⟩
        case measure => simp [intOf]; omega
      · have d1 : decide (i ≤ l.length) = false := decide_eq_false h1
        obtain rfl : i = l.length + 1 := by omega
        have R : Hid (statesS t l = (trailTo t l (l.length + 1), 0)) := by show _ = _; unfold statesS; rw [if_pos hst.out]
        go_wp2
        go_ret2
        rw [R.out]
        refine ⟨_, rfl, ?_, hx.out⟩
        have hl1 : (trailTo t l (l.length + 1)).length = l.length + 1 := trailTo_len t l _
        refine hK.out.read (B' := w.heap.size) ?_
        rw [hl1]
        exact hO.out
  · have hz0 : (z != 0) = true := by simp [h0]
    have R : Hid (statesS t l = ([], z)) := by show _ = _; unfold statesS; rw [hz.out, if_neg h0]
    clear hz h0
    go_wp2
    go_ret2
    rw [R.out]
    exact ⟨_, rfl, ⟨fun _ => undef, ⟨none, 0, rfl, Nat.le_refl _, by decide, fun h => by simp at h⟩, fun i hi => by simp at hi⟩, hW.out⟩
end Go.Proofs.Ytkicielleiafgaa

/- Walks of the reference of carry: Parked, Play, SameStates. -/
namespace Go.Proofs.Ytkicielleiafgaa
open Go.RowKit

def mostR (ls : List (List Int)) : Nat := ls.foldl (fun m r => max m (r.count (-1))) 0
theorem mostR_take {ls : List (List Int)} {i : Nat} {r : List Int} (h : ls[i]? = some r) : mostR (ls.take (i + 1)) = max (mostR (ls.take i)) (r.count (-1)) := by
  rw [take_step h, mostR, List.foldl_append]
  rfl
theorem mostR_trail (t : List WishD) (l : List StepD) : ∀ n, mostR (trailTo t l n) = mostTo t l n
  | 0 => rfl
  | n + 1 => by
    rw [trailTo_step, mostR, List.foldl_append, mostTo, ← mostR_trail t l n]
    rfl
theorem parkedS_eq (t : List WishD) (l : List StepD) : parkedS t l = ((mostR (statesS t l).1 : Int), (statesS t l).2) := by
  unfold parkedS statesS
  split
  · rw [mostR_trail]
  · rfl
set_option maxHeartbeats 3200000 in
set_option maxRecDepth 100000 in
theorem rParked_calls (wv sv : Value) (t : List WishD) (l : List (Int × Int)) (w : World) (h : Wishes w wv t) (hs : Spans w sv l) :
    Calls Try.prog 25 #[.agg #[wv], sv] w fun e w' => e = .returned (.tuple #[.int .i64 (parkedS t l).1, .int .i64 (parkedS t l).2]) ∧ Ext w w' := by
  have hT := Lib.hid h
  have hS := Lib.hid hs
  obtain ⟨ta, tc, rfl⟩ := h.form
  obtain ⟨sa, sc, rfl⟩ := hs.form
  clear h hs
  have R0 := Lib.hid (parkedS_eq t l)
  obtain ⟨ls, z, hlz⟩ : ∃ ls z, Hid (statesS t l = (ls, z)) := ⟨_, _, rfl⟩
  have hst : Hid (∀ W, Ext w W → Calls Try.prog 24 #[.agg #[.slice ta t.length tc], .slice sa l.length sc] W fun e w' => ∃ v, e = .returned (.tuple #[v, .int .i64 z]) ∧ IntRows w' v ls ∧ Ext W w') := fun W hW => by
    have := rStates_calls _ _ t l W (hT.out.ext hW) (hS.out.ext hW)
    rw [hlz.out] at this
    exact this
  go_enter Try.func25, Try.ntmps25
  go_wp2_with fail
  refine (hst.out _ (by repeat' (first | (with_reducible exact Ext.refl _) | (with_reducible assumption) | (with_reducible refine Ext.drewN ?_ _) | (with_reducible refine Ext.drew ?_) | (with_reducible refine Ext.alloc ?_ _) | (with_reducible refine Ext.trans ?_ (by with_reducible assumption))))).mono ?_
  rintro e w1 ⟨v, rfl, hR, hx1⟩
  have hW := Lib.hid (((Ext.refl w).alloc (.cells #[.slice ta t.length tc] 27)).trans hx1)
  obtain ⟨ra, rc, rfl, hrn, hrc, rat⟩ := hR.open
  have rat' := Lib.hid rat
  clear hR rat hx1 hst
  go_wp2_with fail
  go_loopw [8, 9, 10, 11] (fun v8 v9 _ _ wr => ∃ i m : Nat, i ≤ ls.length ∧ v8 = .int .i64 m ∧ v9 = .int .i64 i ∧ Hid (Ext w1 wr) ∧ Hid (mostR (ls.take i) = m)) (fun _ v9 _ _ _ => ls.length - (intOf v9).toNat)
  case atStart => exact ⟨0, 0, by omega, rfl, rfl, Lib.hid (Ext.refl _), Lib.hid rfl⟩
  case round =>
    obtain ⟨i, m, hi, rfl, rfl, hx, hm⟩ := hrel
    by_cases h1 : i < ls.length
    · obtain ⟨b, off, r, r1, rc1, rfl, hb, hr, g0, hri⟩ := rat'.out i h1 wr hx.out
      have hnext := Lib.hid (mostR_take hr.out)
      rw [hm.out] at hnext
      obtain ⟨_, _, e1, hn1, hc1, at1⟩ := hri.open
      cases e1
      have at1' := Lib.hid at1
      clear hr hri at1 hm
      obtain ⟨w0, hw0⟩ : ∃ w0 : World, Hid (wr = w0) := ⟨_, rfl⟩
      go_wp2_with fail
      rw [hw0.out] at hx at1' g0
      rw [hw0.out]
      clear hw0
      go_loopw [10, 11] (fun v10 v11 wk => ∃ k c : Nat, k ≤ r.length ∧ v10 = .int .i64 c ∧ v11 = .int .i64 k ∧ c ≤ k ∧ wk = w0 ∧ Hid ((r.take k).count (-1) = c)) (fun _ v11 _ => r.length - (intOf v11).toNat)
      case atStart => exact ⟨0, 0, by omega, rfl, rfl, by omega, rfl, Lib.hid rfl⟩
      case round =>
        obtain ⟨k, c, hk, rfl, rfl, hck, rfl, hc⟩ := hrel
        by_cases q1 : k < r.length
        · obtain ⟨b1, o1, x, rfl, hb1, _, ex, g1⟩ := at1'.out k q1 _ (Ext.refl _)
          have hcn : Hid ((r.take (k + 1)).count (-1) = c + if x = -1 then 1 else 0) := by
            show _ = _
            rw [take_step ex.out, List.count_append, hc.out, List.count_singleton]
            by_cases q : x = -1 <;> simp [q]
          clear ex hc
          by_cases q2 : x = -1
          · have hcn' : Hid ((r.take (k + 1)).count (-1) = c + 1) := by have := hcn.out; rwa [if_pos q2] at this
            have q3 : (x == -1) = true := by simpa using q2
            clear hcn q2
            go_wp2
            go_roundw
            case rel => exact ⟨k + 1, c + 1, by omega, by go_num, by go_num, by omega, trivial, hcn'⟩
            case measure => simp [intOf]; omega
          · have hcn' : Hid ((r.take (k + 1)).count (-1) = c) := by have := hcn.out; rwa [if_neg q2] at this
            have q3 : (x == -1) = false := by simpa using q2
            clear hcn q2
            go_wp2
            go_roundw
            case rel => exact ⟨k + 1, c, by omega, rfl, by go_num, by omega, trivial, hcn'⟩
            case measure => simp [intOf]; omega
        · have hcf : Hid (r.count (-1) = c) := by
            have := hc.out
            rwa [List.take_of_length_le (by omega)] at this
          rw [hcf.out] at hnext
          clear hc hcf at1'
          by_cases q3 : m < c
          · have q4 : max m c = c := by omega
            rw [q4] at hnext
            clear q4
            go_wp2
            go_roundw
            case rel => exact ⟨i + 1, c, by omega, rfl, by go_num, hx, hnext⟩
            case measure => simp [intOf]; omega
          · have q4 : max m c = m := by omega
            rw [q4] at hnext
            clear q4
            go_wp2
            go_roundw
            case rel => exact ⟨i + 1, m, by omega, rfl, by go_num, hx, hnext⟩
            case measure => simp [intOf]; omega
    · have R : Hid (parkedS t l = ((m : Int), z)) := by
        show _ = _
        have := hm.out
        rw [List.take_of_length_le (by omega)] at this
        rw [R0.out, hlz.out, this]
      clear hm hlz R0
      go_wp2
      go_ret2
      rw [R.out]
      exact ⟨rfl, hW.out.trans hx.out⟩

set_option maxHeartbeats 1600000 in
theorem rSameStates_calls (va vb : Value) (a b : List (List Int)) (w : World) (ha : IntRows w va a) (hb : IntRows w vb b) :
    Calls Try.prog 28 #[va, vb] w fun e w' => e = .returned (.bool (decide (a = b))) ∧ Ext w w' := by
  obtain ⟨aa, ac, rfl, han, hac, aat⟩ := ha.open
  obtain ⟨ba, bc, rfl, hbn, hbc, bat⟩ := hb.open
  have aat' := Lib.hid aat
  have bat' := Lib.hid bat
  clear ha hb aat bat
  by_cases hl : a.length = b.length
  · have d0 : ((a.length : Int) != b.length) = false := by simp [hl]
    have l1 : a.length ≤ b.length := Nat.le_of_eq hl
    have l2 : b.length ≤ a.length := Nat.le_of_eq hl.symm
    clear hl
    go_enter Try.func28, Try.ntmps28
    go_wp2_with fail
    go_loopw [5] (fun vi wr => ∃ i : Nat, i ≤ a.length ∧ vi = .int .i64 i ∧ Hid (Ext w wr) ∧ Hid (∀ j, j < i → a[j]? = b[j]?)) (fun vi _ => a.length - (intOf vi).toNat)
    case atStart => exact ⟨0, by omega, rfl, Lib.hid (Ext.refl _), fun j h => by omega⟩
    case round =>
      obtain ⟨i, hi, rfl, hx, hF⟩ := hrel
      by_cases h1 : i < a.length
      · obtain ⟨b1, o1, r, ra, rc, rfl, hb1, er, g0, hr⟩ := aat'.out i h1 wr hx.out
        obtain ⟨b2, o2, s, sa, sc, rfl, hb2, es, g1, hs⟩ := bat'.out i (by omega) wr hx.out
        have h1b : i < b.length := by omega
        obtain ⟨q, hq⟩ : ∃ q, Hid (decide (r = s) = q) := ⟨_, rfl⟩
        have hsame : Hid (∀ W, Ext wr W → Calls Try.prog 22 #[.slice ra r.length rc, .slice sa s.length sc] W fun e w' => e = .returned (.bool q) ∧ Ext W w') := fun W hW => hq.out ▸ rSame35_calls _ _ r s W (hr.ext hW) (hs.ext hW)
        clear hr hs
        go_upto_region 6 with (fail)
        have z1 := After.cell g0
        have z2 := After.cell g1
        clear g0 g1
        refine wp_region_after (by kernel_rfl) (by kernel_rfl) ?_
        repeat (go_big_quiet_step (exact After.call _ (hsame.out _ (After.ext _))))
        refine wpQuiet_nil ?_
        rintro _ ⟨u, rfl⟩
        have hu := Lib.hid (hx.out.trans u.ext)
        generalize u.world = V at hu ⊢
        clear z1 z2 hsame
        cases q with
        | true =>
          have R : Hid (∀ j, j < i + 1 → a[j]? = b[j]?) := Lib.hid fun j hj => by
            rcases Nat.lt_succ_iff_lt_or_eq.1 hj with h | rfl
            · exact hF.out j h
            · rw [er.out, es.out, of_decide_eq_true hq.out]
          clear hF hq er es
          go_wp2
          go_roundw
          case rel => exact ⟨i + 1, by omega, by go_num, hu, R⟩
          case measure => simp [intOf]; omega
        | false =>
          have R : Hid (decide (a = b) = false) := decide_eq_false (fun e => by
            have h1 := er.out
            rw [e, es.out] at h1
            exact of_decide_eq_false hq.out (Option.some.inj h1).symm)
          clear hF hq er es
          go_wp2
          go_ret
          rw [R.out]
          exact ⟨rfl, hu.out⟩
      · have R : Hid (decide (a = b) = true) := decide_eq_true (by
          apply List.ext_getElem?
          intro j
          rcases Nat.lt_or_ge j a.length with h | h
          · exact hF.out j (by omega)
          · rw [List.getElem?_eq_none h, List.getElem?_eq_none (by omega)])
        clear hF
        go_wp2
        go_ret
        rw [R.out]
        exact ⟨rfl, hx.out⟩
  · have d0 : ((a.length : Int) != b.length) = true := by simp; omega
    have R : Hid (decide (a = b) = false) := decide_eq_false (fun e => hl (by rw [e]))
    clear hl
    go_enter Try.func28, Try.ntmps28
    go_wp2
    go_ret
    rw [R.out]
    exact ⟨rfl, Ext.refl _⟩
end Go.Proofs.Ytkicielleiafgaa

/- Walks of the reference of carry: Play, next. -/
namespace Go.Proofs.Ytkicielleiafgaa
open Go.RowKit

theorem rPlay_results {tmps : Array Value} {w : World} {g : Nat} {v : Value} {b : Bool} {x : Int} (hp : tmps.getD 6 undef = .pointer (some ⟨g, 0, none⟩)) (hb : Blk w g 53 #[v, .bool b, .int .i64 x]) :
    (results Try.f26 tmps).run Try.prog w = .ok (.agg #[v, .bool b, .int .i64 x]) w :=
  results_cell_row Try.results26 tmps w g 53 _ (0, 0) _ hp hb Try.underlying53 rfl (by kernel_rfl)
set_option maxHeartbeats 1600000 in
set_option maxRecDepth 100000 in
theorem rPlay_calls (wv sv fv : Value) (t : List WishD) (l : List (Int × Int)) (fails : List Int) (w : World) (h : Wishes w wv t) (hs : Spans w sv l) (hf : Ints w fv fails) :
    Calls Try.prog 26 #[.agg #[wv], sv, fv] w fun e w' => ∃ v, e = .returned (.agg #[v, .bool (playS t l fails).2.1, .int .i64 (playS t l fails).2.2]) ∧ Ints w' v (playS t l fails).1 ∧ Ext w w' := by
  have hT := Lib.hid h
  have hS := Lib.hid hs
  obtain ⟨ta, tc, rfl⟩ := h.form
  obtain ⟨sa, sc, rfl, hsn, hsc, _⟩ := hs.open
  obtain ⟨fa, fc, rfl, hfn, hfc, fat⟩ := hf.open
  have fat' := Lib.hid fat
  clear h hs hf fat
  obtain ⟨z, hz⟩ : ∃ z, Hid (stepsT t l = z) := ⟨_, rfl⟩
  have hval : Hid (∀ W, Ext w W → Calls Try.prog 59 #[.agg #[.slice ta t.length tc], .slice sa l.length sc] W fun e w' => e = .returned (.int .i64 z) ∧ Ext W w') := fun W hW => hz.out ▸ rValid35_calls _ _ t l W (hT.out.ext hW) (hS.out.ext hW)
  go_enter Try.func26, Try.ntmps26
  go_wp2_with fail
  refine (hval.out _ (by repeat' (first | (with_reducible exact Ext.refl _) | (with_reducible assumption) | (with_reducible refine Ext.drewN ?_ _) | (with_reducible refine Ext.drew ?_) | (with_reducible refine Ext.alloc ?_ _) | (with_reducible refine Ext.trans ?_ (by with_reducible assumption))))).mono ?_
  rintro e w1 ⟨rfl, hx1⟩
  have hA1 : Hid (Blk w1 w.heap.size 27 #[.slice ta t.length tc]) := Lib.hid ((Keep.of_ext (X := fun _ => False) hx1).blk (Blk.alloc (blk_new' rfl rfl) _) id)
  have hB1 : Hid (Blk w1 (w.heap.size + 1) 53 #[.slice none 0 0, .bool false, .int .i64 0]) := Lib.hid ((Keep.of_ext (X := fun _ => False) hx1).blk (blk_new' (by rw [World.size_alloc]) rfl) id)
  have hW : Hid (Ext w w1) := Lib.hid (((((Ext.refl w).alloc _).alloc _)).trans hx1)
  clear hx1 hval
  by_cases h0 : z = 0
  · have hz0 : (z != 0) = false := by simp [h0]
    obtain ⟨hv, hok, _⟩ := stepsT_ok (hz.out.trans h0)
    have hok' := Lib.hid hok
    obtain ⟨hb1, hb2⟩ := stepsT_bd hv
    have hst : Hid (stepsT t l = 0) := hz.out.trans h0
    have hmk := run_make_ints t.length (by omega)
    have hzl : (zeros t.length).length = t.length := by simp [zeros]
    clear hz h0 hv hok
    go_wp2_with fail
    go_loopw [8] (fun vi wr => ∃ i : Nat, i ≤ fails.length ∧ vi = .int .i64 i ∧ Hid (Ext w wr) ∧ Hid (Blk wr w.heap.size 27 #[.slice ta t.length tc]) ∧ Hid (Blk wr (w.heap.size + 1) 53 #[.slice none 0 0, .bool false, .int .i64 0]) ∧ Hid ((fails.any fun i => idxB i l.length) = (fails.drop i).any fun i => idxB i l.length)) (fun vi _ => fails.length - (intOf vi).toNat)
    case atStart => exact ⟨0, by omega, rfl, hW, hA1, hB1, rfl⟩
    case round =>
      clear hW hA1 hB1
      obtain ⟨i, hi, rfl, hx, hA, hB, hF⟩ := hrel
      by_cases h1 : i < fails.length
      · obtain ⟨b1, o1, x, rfl, hb3, dx, ex, g0⟩ := fat'.out i h1 wr hx.out
        have hstep := Lib.hid (any_step (p := fun i => idxB i l.length) dx.out)
        rw [← hF.out] at hstep
        clear dx ex hF
        by_cases q1 : 0 ≤ x
        · have d1 : decide (0 ≤ x) = true := decide_eq_true q1
          by_cases q2 : x < (l.length : Int)
          · have d2 : decide (x < (l.length : Int)) = true := decide_eq_true q2
            have R : Hid (playS t l fails = (zeros t.length, false, 0)) := by
              show _ = _
              unfold playS
              rw [if_pos hst.out, hstep.out, show idxB x l.length = true by simp [idxB]; omega]
              rfl
            clear hstep
            have c0 : wr.cell? ⟨w.heap.size, 0, none⟩ = some (.slice ta t.length tc) := hA.out.cell 0
            have k0 : wr.cell? ⟨w.heap.size + 1, 0, none⟩ = some (.slice none 0 0) := hB.out.cell 0
            have k1 : wr.cell? ⟨w.heap.size + 1, 1, none⟩ = some (.bool false) := hB.out.cell 1
            have k2 : wr.cell? ⟨w.heap.size + 1, 2, none⟩ = some (.int .i64 0) := hB.out.cell 2
            have m0 := hB.out.frozen 0
            have m1 := hB.out.frozen 1
            have m2 := hB.out.frozen 2
            have lb := hB.out.lt
            go_wp2
            (try simp only [Exit.inBlock, Exit.then])
            (try rw [Exit.noGoto_ret])
            refine bodyPost_ret (rPlay_results rfl ((((hB.out.set_ 0 _).set_ 1 _).set_ 2 _).alloc _)) rfl ?_
            rw [R.out]
            refine ⟨_, rfl, ?_, ((((hx.out.setCell (Nat.le_succ _) _).setCell (Nat.le_succ _) _).setCell (Nat.le_succ _) _).alloc _)⟩
            obtain ⟨W3, hW3⟩ : ∃ W3, W3 = ((wr.setCell ⟨w.heap.size + 1, 0, none⟩ (.slice (some ⟨wr.heap.size, 0, none⟩) t.length t.length)).setCell ⟨w.heap.size + 1, 1, none⟩ (.bool false)).setCell ⟨w.heap.size + 1, 2, none⟩ (.int .i64 0) := ⟨_, rfl⟩
            have hsz : W3.heap.size = wr.heap.size := by rw [hW3, World.size_setCell, World.size_setCell, World.size_setCell]
            rw [← hW3]
            have := (St.new W3 t.length).read (by rw [hzl]; unfold maxLen; omega)
            rw [hzl, hsz] at this
            exact this
          · have d2 : decide (x < (l.length : Int)) = false := decide_eq_false q2
            have R : Hid ((fails.any fun i => idxB i l.length) = (fails.drop (i + 1)).any fun i => idxB i l.length) := by
              show _ = _
              rw [hstep.out, show idxB x l.length = false by simp [idxB]; omega, Bool.false_or]
            clear hstep
            go_wp2
            go_roundw
            case rel => exact ⟨i + 1, by omega, by go_num, hx, hA, hB, R⟩
            case measure => simp [intOf]; omega
        · have d1 : decide (0 ≤ x) = false := decide_eq_false q1
          have R : Hid ((fails.any fun i => idxB i l.length) = (fails.drop (i + 1)).any fun i => idxB i l.length) := by
            show _ = _
            rw [hstep.out, show idxB x l.length = false by simp [idxB]; omega, Bool.false_or]
          clear hstep
          go_wp2
          go_roundw
          case rel => exact ⟨i + 1, by omega, by go_num, hx, hA, hB, R⟩
          case measure => simp [intOf]; omega
      · have R : Hid (playS t l fails = (afterS (zeros t.length) l, true, 0)) := by
          show _ = _
          unfold playS
          rw [if_pos hst.out, hF.out, any_end (by omega)]
          rfl
        have c0 : wr.cell? ⟨w.heap.size, 0, none⟩ = some (.slice ta t.length tc) := hA.out.cell 0
        have haf := Lib.hid (rAfter_calls _ _ t l l.length wr (hT.out.ext hx.out) (hS.out.ext hx.out) hok'.out hb2 (Nat.le_refl _))
        clear hF
        go_wp2_with fail
        refine haf.out.mono ?_
        rintro e w3 ⟨K, rfl, hKb, hStK, hx3⟩
        have hB3 : Hid (Blk w3 (w.heap.size + 1) 53 #[.slice none 0 0, .bool false, .int .i64 0]) := Lib.hid ((Keep.of_ext (X := fun _ => False) hx3).blk hB.out id)
        have hne : K ≠ w.heap.size + 1 := by have := hB.out.lt; omega
        have hx4 := Lib.hid (hx.out.trans hx3)
        have hSK := Lib.hid hStK
        clear hStK hx3 haf hB hA hx
        have k0 : w3.cell? ⟨w.heap.size + 1, 0, none⟩ = some (.slice none 0 0) := hB3.out.cell 0
        have k1 : w3.cell? ⟨w.heap.size + 1, 1, none⟩ = some (.bool false) := hB3.out.cell 1
        have k2 : w3.cell? ⟨w.heap.size + 1, 2, none⟩ = some (.int .i64 0) := hB3.out.cell 2
        have m0 := hB3.out.frozen 0
        have m1 := hB3.out.frozen 1
        have m2 := hB3.out.frozen 2
        have lb := hB3.out.lt
        go_wp2
        (try simp only [Exit.inBlock, Exit.then])
        (try rw [Exit.noGoto_ret])
        refine bodyPost_ret (rPlay_results rfl (((hB3.out.set_ 0 _).set_ 1 _).set_ 2 _)) rfl ?_
        rw [R.out]
        refine ⟨_, rfl, ?_, ((hx4.out.setCell (Nat.le_succ _) _).setCell (Nat.le_succ _) _).setCell (Nat.le_succ _) _⟩
        have hsl := stAt_len t l l.length
        have := St.read (Blk.far (p := ⟨w.heap.size + 1, 2, none⟩) (Blk.far (p := ⟨w.heap.size + 1, 1, none⟩) (Blk.far (p := ⟨w.heap.size + 1, 0, none⟩) hSK.out hne (.slice (some ⟨K, 0, none⟩) t.length t.length)) hne (.bool true)) hne (.int .i64 0)) (by rw [hsl]; unfold maxLen; omega)
        rw [hsl] at this
        have e2 : stAt t l l.length = afterS (zeros t.length) l := by unfold stAt; rw [List.take_of_length_le (Nat.le_refl _)]
        rw [e2] at this
        exact this
  · have hz0 : (z != 0) = true := by simp [h0]
    have R : Hid (playS t l fails = ([], false, z)) := by show _ = _; unfold playS; rw [hz.out, if_neg h0]
    clear hz h0
    have k0 : w1.cell? ⟨w.heap.size + 1, 0, none⟩ = some (.slice none 0 0) := hB1.out.cell 0
    have k1 : w1.cell? ⟨w.heap.size + 1, 1, none⟩ = some (.bool false) := hB1.out.cell 1
    have k2 : w1.cell? ⟨w.heap.size + 1, 2, none⟩ = some (.int .i64 0) := hB1.out.cell 2
    have m0 := hB1.out.frozen 0
    have m1 := hB1.out.frozen 1
    have m2 := hB1.out.frozen 2
    have lb := hB1.out.lt
    go_wp2
    (try simp only [Exit.inBlock, Exit.then])
    (try rw [Exit.noGoto_ret])
    refine bodyPost_ret (rPlay_results rfl (((hB1.out.set_ 0 _).set_ 1 _).set_ 2 _)) rfl ?_
    rw [R.out]
    exact ⟨_, rfl, (IntsO.nil _ 0).read, ((hW.out.setCell (Nat.le_succ _) _).setCell (Nat.le_succ _) _).setCell (Nat.le_succ _) _⟩
end Go.Proofs.Ytkicielleiafgaa

/- Walk of the reference of carry: next. -/
namespace Go.Proofs.Ytkicielleiafgaa
open Go.RowKit

theorem rNext_results {tmps : Array Value} {w : World} {g : Nat} {x y : Int} (hp : tmps.getD 6 undef = .pointer (some ⟨g, 0, none⟩)) (hb : Blk w g 42 #[.int .i64 x, .int .i64 y]) :
    (results Try.f62 tmps).run Try.prog w = .ok (.agg #[.int .i64 x, .int .i64 y]) w :=
  results_cell_row Try.results62 tmps w g 42 _ (0, 0) _ hp hb Try.underlying42 rfl (by kernel_rfl)
set_option maxHeartbeats 3200000 in
set_option maxRecDepth 100000 in
theorem rNext_calls (wv sv pv : Value) (t : List WishD) (pick st : List Int) (w : World) (h : Wishes w wv t) (hs : Ints w sv st) (hp : Ints w pv pick) (hl : pick.length = st.length) (hv : validT t = 0) (hc : calmB t st = true) (h512 : st.length ≤ 512) :
    Calls Try.prog 62 #[.agg #[wv], sv, pv] w fun e w' => e = .returned (.agg #[.int .i64 (nextV (goS t pick st)).1, .int .i64 (nextV (goS t pick st)).2]) ∧ Ext w w' := by
  have hT := Lib.hid h
  obtain ⟨ta, tc, rfl⟩ := h.form
  have hS0 := Lib.hid hs
  obtain ⟨sa, sc, rfl, hsn, hsc, sat⟩ := hs.open
  obtain ⟨pa, pc, rfl, hpn, hpc, pat⟩ := hp.open
  have sat' := Lib.hid sat
  have pat' := Lib.hid pat
  have hl1 : pick.length ≤ st.length := Nat.le_of_eq hl
  have hl2 : st.length ≤ pick.length := Nat.le_of_eq hl.symm
  have hv' := Lib.hid hv
  have hc' := Lib.hid hc
  obtain ⟨j0, hj0, jz0, jz1, jz2⟩ := info_parts int_info
  clear h hs hp sat pat hl hv hc
  go_enter Try.func62, Try.ntmps62
  go_upto_region 1 with (fail)
  refine wp_abs (S := fun W => Hid (Ext w W) ∧ Hid (Blk W w.heap.size 27 #[.slice ta t.length tc]) ∧ Hid (Blk W (w.heap.size + 1) 42 #[.int .i64 0, .int .i64 0])) ?_ ?_
  · exact ⟨Lib.hid (by exact (by repeat' (first | (with_reducible exact Ext.refl _) | (with_reducible assumption) | (with_reducible refine Ext.drewN ?_ _) | (with_reducible refine Ext.drew ?_) | (with_reducible refine Ext.alloc ?_ _) | (with_reducible refine Ext.trans ?_ (by with_reducible assumption))))), Lib.hid (Blk.alloc (blk_new' rfl rfl) _), Lib.hid (blk_new' (by rw [World.size_alloc]) rfl)⟩
  rintro W0 ⟨hE0, hA0, hB0⟩
  (try go_step3)
  go_wp2_with fail
  go_loopw [7, 8] (fun vi _ wr => ∃ i : Nat, i ≤ st.length ∧ vi = .int .i64 i ∧ Hid (Ext w wr) ∧ Hid (Blk wr w.heap.size 27 #[.slice ta t.length tc]) ∧ Hid (Blk wr (w.heap.size + 1) 42 #[.int .i64 0, .int .i64 0]) ∧ Hid (∀ j, j < i → canB t pick st j = false)) (fun vi _ _ => st.length - (intOf vi).toNat)
  case atStart => exact ⟨0, by omega, rfl, hE0, hA0, hB0, Lib.hid (fun j h => by omega)⟩
  case round =>
    clear hE0 hA0 hB0
    obtain ⟨i, hi, rfl, hx, hA, hB, hF⟩ := hrel
    by_cases h1 : i < st.length
    · obtain ⟨b1, o1, x, rfl, hb1, _, ex, g0⟩ := sat'.out i h1 wr hx.out
      obtain ⟨b2, o2, y, rfl, hb2, _, ey, g1⟩ := pat'.out i (by omega) wr hx.out
      have e1 : Hid (atI st i = x) := atI_some ex.out
      have e2 : Hid (atI pick i = y) := atI_some ey.out
      have hcan : Hid (canB t pick st i = (!decide (x = y) && calmB t (st.set i y))) := by
        show _ = _
        rw [can_calm hc'.out h1, e1.out, e2.out]
      have hrd : Hid (Reads wr wr.heap.size 1 (some ⟨b1, o1, none⟩) st.length (st.map (Value.int .i64))) := (hS0.out.ext hx.out).reads
      have hpos : 0 < st.length := by omega
      clear ex ey e1
      go_upto_region 5 with (at_builtin; refine wpList_append_any _ rfl (.tmp 16) (.tmp 17) _ rfl wr.heap.size 3 j0 _ 1 8 Try.underlying29 hj0 jz0 jz1 jz2 rfl (by decide) (.slice (some ⟨wr.heap.size, 0, none⟩) 0 0) 0 [] rfl (World.ownsRow_made wr #[] 0 (Nat.le_refl _) (by unfold maxLen; omega) rfl) wr.heap.size (some ⟨b1, o1, none⟩) st.length sc (st.map (Value.int .i64)) rfl (hrd.out.alloc (Nat.le_refl _) _) (by intro u hu; simp at hu; obtain ⟨y, _, rfl⟩ := hu; rfl) (by unfold maxLen; omega) (by omega) (by rw [World.size_alloc]; omega) ?_; intro v5 w5 hown5 hg5 hat5; rw [Nat.zero_add, List.nil_append] at hown5; obtain ⟨g5, c5, rfl⟩ := owns_pos hown5 hpos; have hS5 : Hid (IntsO w5 wr.heap.size (.slice (some ⟨g5, 0, none⟩) st.length c5) st) := Lib.hid hown5; have hE5 := Lib.hid (((Ext.refl wr).alloc (.cells #[] 3)).grown hg5 (by intro k hk; simp [Value.ownBlock] at hk; omega)); clear hown5 hg5 hat5)
      have hg5 := (IntsO.lt_ hS5.out).1
      have hg5' := (IntsO.lt_ hS5.out).2
      have n1 := hE5.out.cell g1
      have m1 := hS5.out.cell h1
      have m2 := hS5.out.frozen i
      go_upto_region 6 with (fail)
      refine wp_abs (S := fun W => Hid (Ext wr W) ∧ Hid (Ints W (.slice (some ⟨g5, 0, none⟩) st.length c5) (st.set i y))) ?_ ?_
      · refine ⟨Lib.hid (hE5.out.setCell (by exact hg5) _), Lib.hid ?_⟩
        have := (hS5.out.set_ (i := i) y).read
        rwa [List.length_set] at this
      clear hE5 hS5 n1 m1 m2 hg5 hg5'
      rintro W ⟨hW, hM⟩
      have hxW := Lib.hid (hx.out.trans hW.out)
      have hAW : Hid (Blk W w.heap.size 27 #[.slice ta t.length tc]) := Lib.hid ((Keep.of_ext (X := fun _ => False) hW.out).blk hA.out id)
      have hBW : Hid (Blk W (w.heap.size + 1) 42 #[.int .i64 0, .int .i64 0]) := Lib.hid ((Keep.of_ext (X := fun _ => False) hW.out).blk hB.out id)
      have z1 := After.cell (hW.out.cell g0)
      have z2 := After.cell (hW.out.cell g1)
      have z3 := After.cell (show W.cell? ⟨w.heap.size, 0, none⟩ = some (.slice ta t.length tc) from hAW.out.cell 0)
      have gW := hW.out.cell g1
      clear hA hB hx hW hrd g0 g1
      by_cases hxy : x = y
      · have d1 : (x != y) = false := by simp [hxy]
        have hz : Hid (canB t pick st i = false) := by show _ = _; rw [hcan.out, decide_eq_true hxy]; rfl
        clear hxy hcan
        refine wp_region_after (by kernel_rfl) (by kernel_rfl) ?_
        repeat (go_big_quiet_step (first | exact After.call _ (hcl.out _ (After.ext _)) | fail))
        refine wpQuiet_nil ?_
        rintro _ ⟨u, rfl⟩
        have hu := u.ext
        generalize u.world = V at hu ⊢
        clear z1 z2 z3
        have hxV := Lib.hid (hxW.out.trans hu)
        have hAV : Hid (Blk V w.heap.size 27 #[.slice ta t.length tc]) := Lib.hid ((Keep.of_ext (X := fun _ => False) hu).blk hAW.out id)
        have hBV : Hid (Blk V (w.heap.size + 1) 42 #[.int .i64 0, .int .i64 0]) := Lib.hid ((Keep.of_ext (X := fun _ => False) hu).blk hBW.out id)
        have n1 := hu.cell gW
        clear hxW hAW hBW hM hu gW
        have hF2 : Hid (∀ j, j < i + 1 → canB t pick st j = false) := fun j hj => by
          rcases Nat.lt_succ_iff_lt_or_eq.1 hj with h | rfl
          · exact hF.out j h
          · exact hz.out
        clear hF hz n1 e2
        go_wp2
        go_roundw
        case rel => first | exact ⟨i + 1, by omega, by go_num, hxV, hAV, hBV, hF2⟩ | ((repeat apply Exists.intro); exact ⟨⟨i + 1, by omega, by go_num, hxV, hAV, hBV, hF2⟩, rfl⟩)
        case measure => simp [intOf]; omega
      · have d1 : (x != y) = true := by simp [hxy]
        obtain ⟨q, hq⟩ : ∃ q, Hid (calmB t (st.set i y) = q) := ⟨_, rfl⟩
        have hz : Hid (canB t pick st i = q) := by show _ = _; rw [hcan.out, decide_eq_false hxy, hq.out]; rfl
        have hcl : Hid (∀ W', Ext W W' → Calls Try.prog 64 #[.agg #[.slice ta t.length tc], .slice (some ⟨g5, 0, none⟩) st.length c5] W' fun e w' => e = .returned (.bool q) ∧ Ext W' w') := fun W' hW' => hq.out ▸ rCalm_calls _ _ t (st.set i y) W' (hT.out.ext (hxW.out.trans hW')) (hM.out.ext hW') hv'.out
        clear hxy hcan hq
        refine wp_region_after (by kernel_rfl) (by kernel_rfl) ?_
        repeat (go_big_quiet_step (first | exact After.call _ (hcl.out _ (After.ext _)) | fail))
        refine wpQuiet_nil ?_
        rintro _ ⟨u, rfl⟩
        have hu := u.ext
        generalize u.world = V at hu ⊢
        clear z1 z2 z3
        have hxV := Lib.hid (hxW.out.trans hu)
        have hAV : Hid (Blk V w.heap.size 27 #[.slice ta t.length tc]) := Lib.hid ((Keep.of_ext (X := fun _ => False) hu).blk hAW.out id)
        have hBV : Hid (Blk V (w.heap.size + 1) 42 #[.int .i64 0, .int .i64 0]) := Lib.hid ((Keep.of_ext (X := fun _ => False) hu).blk hBW.out id)
        have n1 := hu.cell gW
        clear hxW hAW hBW hM hu gW
        clear hcl
        cases q with
        | false =>
          have hF2 : Hid (∀ j, j < i + 1 → canB t pick st j = false) := fun j hj => by
            rcases Nat.lt_succ_iff_lt_or_eq.1 hj with h | rfl
            · exact hF.out j h
            · exact hz.out
          clear hF hz n1 e2
          go_wp2
          go_roundw
          case rel => first | exact ⟨i + 1, by omega, by go_num, hxV, hAV, hBV, hF2⟩ | ((repeat apply Exists.intro); exact ⟨⟨i + 1, by omega, by go_num, hxV, hAV, hBV, hF2⟩, rfl⟩)
          case measure => simp [intOf]; omega
        | true =>
          have R : Hid (goS t pick st = some ((i : Int), y)) := by
            show _ = _
            unfold goS
            rw [find_hit h1 hz.out hF.out]
            dsimp only
            rw [e2.out]
          have k0 : V.cell? ⟨w.heap.size + 1, 0, none⟩ = some (.int .i64 0) := hBV.out.cell 0
          have k1 : V.cell? ⟨w.heap.size + 1, 1, none⟩ = some (.int .i64 0) := hBV.out.cell 1
          have m0 := hBV.out.frozen 0
          have m1 := hBV.out.frozen 1
          have lb := hBV.out.lt
          clear hz hF e2
          go_wp2
          (try simp only [Exit.inBlock, Exit.then])
          (try rw [Exit.noGoto_ret])
          refine bodyPost_ret (rNext_results (x := (i : Int)) (y := y) rfl (((hBV.out.set_ 0 _).set_ 1 _))) rfl ?_
          rw [R.out]
          exact ⟨rfl, ((hxV.out.setCell (p := ⟨w.heap.size + 1, 0, none⟩) (Nat.le_succ _) _).setCell (p := ⟨w.heap.size + 1, 1, none⟩) (Nat.le_succ _) _)⟩
    · have hnone : Hid ((List.range st.length).find? (canB t pick st) = none) := find_none fun j hj => hF.out j (by omega)
      obtain ⟨wA, hwA⟩ : ∃ wA : World, Hid (wr = wA) := ⟨_, rfl⟩
      clear hF hA
      go_wp2_with fail
      rw [hwA.out] at hx hB
      rw [hwA.out]
      clear hwA
      go_loopw [9] (fun vi wr => ∃ i : Nat, i ≤ st.length ∧ vi = .int .i64 i ∧ Hid (Ext w wr) ∧ Hid (Blk wr (w.heap.size + 1) 42 #[.int .i64 0, .int .i64 0]) ∧ Hid (∀ j, j < i → parkB pick st j = false)) (fun vi _ => st.length - (intOf vi).toNat)
      case atStart => exact ⟨0, by omega, rfl, hx, hB, Lib.hid (fun j h => by omega)⟩
      case round =>
        clear hx hB
        obtain ⟨k, hk, rfl, hx, hB, hF⟩ := hrel
        by_cases h2 : k < st.length
        · obtain ⟨b1, o1, x, rfl, hb1, _, ex, g0⟩ := sat'.out k h2 wr hx.out
          obtain ⟨b2, o2, y, rfl, hb2, _, ey, g1⟩ := pat'.out k (by omega) wr hx.out
          have e1 : atI st k = x := atI_some ex.out
          have e2 : atI pick k = y := atI_some ey.out
          have hpk : Hid (parkB pick st k = (!(x == y) && !(x == -1))) := by
            show _ = _
            unfold parkB
            rw [e1, e2]
            congr 1 <;> (congr 1; exact (Bool.eq_iff_iff.2 (by simp)))
          clear e1 e2 ex ey
          cases hxy : (x == y) with
          | true =>
            have hn0 : (x != y) = false := by simp [bne, hxy]
            have hF2 : Hid (∀ j, j < k + 1 → parkB pick st j = false) := fun j hj => by
              rcases Nat.lt_succ_iff_lt_or_eq.1 hj with h | rfl
              · exact hF.out j h
              · rw [hpk.out]; simp [hxy]
            clear hF hpk
            go_upto_region 11 with (fail)
            have z1 := After.cell g0
            have z2 := After.cell g1
            clear g0 g1
            refine wp_region_after (by kernel_rfl) (by kernel_rfl) ?_
            repeat (go_big_quiet_step (fail))
            refine wpQuiet_nil ?_
            rintro _ ⟨u, rfl⟩
            have hu := Lib.hid u.ext
            generalize u.world = W at hu ⊢
            clear z1 z2
            have hxW := Lib.hid (hx.out.trans hu.out)
            have hBW : Hid (Blk W (w.heap.size + 1) 42 #[.int .i64 0, .int .i64 0]) := Lib.hid ((Keep.of_ext (X := fun _ => False) hu.out).blk hB.out id)
            clear hx hB hu
            go_wp2
            go_roundw
            case rel => exact ⟨k + 1, by omega, by go_num, hxW, hBW, hF2⟩
            case measure => simp [intOf]; omega
          | false =>
            have hn0 : (x != y) = true := by simp [bne, hxy]
            cases hx1 : (x == -1) with
            | true =>
              have hn1 : (x != -1) = false := by simp [bne, hx1]
              have hF2 : Hid (∀ j, j < k + 1 → parkB pick st j = false) := fun j hj => by
                rcases Nat.lt_succ_iff_lt_or_eq.1 hj with h | rfl
                · exact hF.out j h
                · rw [hpk.out]; simp [hx1]
              clear hF hpk
              go_upto_region 11 with (fail)
              have z1 := After.cell g0
              have z2 := After.cell g1
              clear g0 g1
              refine wp_region_after (by kernel_rfl) (by kernel_rfl) ?_
              repeat (go_big_quiet_step (fail))
              refine wpQuiet_nil ?_
              rintro _ ⟨u, rfl⟩
              have hu := Lib.hid u.ext
              generalize u.world = W at hu ⊢
              clear z1 z2
              have hxW := Lib.hid (hx.out.trans hu.out)
              have hBW : Hid (Blk W (w.heap.size + 1) 42 #[.int .i64 0, .int .i64 0]) := Lib.hid ((Keep.of_ext (X := fun _ => False) hu.out).blk hB.out id)
              clear hx hB hu
              go_wp2
              go_roundw
              case rel => exact ⟨k + 1, by omega, by go_num, hxW, hBW, hF2⟩
              case measure => simp [intOf]; omega
            | false =>
              have hn1 : (x != -1) = true := by simp [bne, hx1]
              have R : Hid (goS t pick st = some ((k : Int), -1)) := by
                show _ = _
                unfold goS
                rw [hnone.out, find_hit h2 (by rw [hpk.out, hxy, hx1]; rfl) hF.out]
              clear hF hpk
              go_upto_region 11 with (fail)
              have z1 := After.cell g0
              have z2 := After.cell g1
              clear g0 g1
              refine wp_region_after (by kernel_rfl) (by kernel_rfl) ?_
              repeat (go_big_quiet_step (fail))
              refine wpQuiet_nil ?_
              rintro _ ⟨u, rfl⟩
              have hu := Lib.hid u.ext
              generalize u.world = W at hu ⊢
              clear z1 z2
              have hxW := Lib.hid (hx.out.trans hu.out)
              have hBW : Hid (Blk W (w.heap.size + 1) 42 #[.int .i64 0, .int .i64 0]) := Lib.hid ((Keep.of_ext (X := fun _ => False) hu.out).blk hB.out id)
              clear hx hB hu
              have k0 : W.cell? ⟨w.heap.size + 1, 0, none⟩ = some (.int .i64 0) := hBW.out.cell 0
              have k1 : W.cell? ⟨w.heap.size + 1, 1, none⟩ = some (.int .i64 0) := hBW.out.cell 1
              have m0 := hBW.out.frozen 0
              have m1 := hBW.out.frozen 1
              have lb := hBW.out.lt
              go_wp2
              (try simp only [Exit.inBlock, Exit.then])
              (try rw [Exit.noGoto_ret])
              refine bodyPost_ret (rNext_results (x := (k : Int)) (y := (-1)) rfl (((hBW.out.set_ 0 _).set_ 1 _))) rfl ?_
              rw [R.out]
              exact ⟨rfl, ((hxW.out.setCell (p := ⟨w.heap.size + 1, 0, none⟩) (Nat.le_succ _) _).setCell (p := ⟨w.heap.size + 1, 1, none⟩) (Nat.le_succ _) _)⟩
        · have R : Hid (goS t pick st = none) := by
            show _ = _
            unfold goS
            rw [hnone.out, find_none fun j hj => hF.out j (by omega)]
          clear hF
          have k0 : wr.cell? ⟨w.heap.size + 1, 0, none⟩ = some (.int .i64 0) := hB.out.cell 0
          have k1 : wr.cell? ⟨w.heap.size + 1, 1, none⟩ = some (.int .i64 0) := hB.out.cell 1
          have m0 := hB.out.frozen 0
          have m1 := hB.out.frozen 1
          have lb := hB.out.lt
          go_wp2
          (try simp only [Exit.inBlock, Exit.then])
          (try rw [Exit.noGoto_ret])
          refine bodyPost_ret (rNext_results (x := 0) (y := 0) rfl (((hB.out.set_ 0 _).set_ 1 _))) rfl ?_
          rw [R.out]
          exact ⟨rfl, ((hx.out.setCell (p := ⟨w.heap.size + 1, 0, none⟩) (Nat.le_succ _) _).setCell (p := ⟨w.heap.size + 1, 1, none⟩) (Nat.le_succ _) _)⟩
end Go.Proofs.Ytkicielleiafgaa

/- Walk of the reference of carry: Order. -/
namespace Go.Proofs.Ytkicielleiafgaa
open Go.RowKit

structure RordM (w : World) (S m : Nat) (tv : Value) (t : List WishD) (A : Option Addr) (C : Nat) (out : List StepD) (st : List Int) (W : World) : Prop where
  ext : Ext w W
  tb : Blk W w.heap.size 27 #[tv]
  state : St W S st
  own : W.ownsRow w.heap.size 42 2 (.slice A m C) m (spanCells out)
section
variable {w W W' : World} {S m : Nat} {tv : Value} {t : List WishD} {A : Option Addr} {C : Nat} {out : List StepD} {st : List Int}
theorem RordM.toExt (h : RordM w S m tv t A C out st W) (e : Ext W W') : RordM w S m tv t A C out st W' := by
  have k : Keep (fun _ => False) W W' := Keep.of_ext e
  exact ⟨h.ext.trans e, k.blk h.tb id, h.state.ext e, owns_ext h.own e⟩
theorem RordM.setSt (h : RordM w S m tv t A C out st W) (hS : w.heap.size < S) (i : Nat) (v : Int) : RordM w S m tv t A C out (st.set i v) (W.setCell ⟨S, i, none⟩ (.int .i64 v)) := by
  have k := keep_set W S i (.int .i64 v)
  exact ⟨h.ext.setCell (by show w.heap.size ≤ S; omega) _, k.blk h.tb (by omega), h.state.set_ i v, k.owns h.own (fun g hg e => by
    obtain ⟨cs, hb⟩ := owns_block h.own hg
    rw [e] at hb
    exact absurd (blk_type hb h.state) (by decide))⟩
theorem RordM.push {A' : Option Addr} {C' : Nat} {s : StepD} (h : RordM w S m tv t A C out st W) (ho : W'.ownsRow w.heap.size 42 2 (.slice A' (m + 1) C') (m + 1) (spanCells out ++ [.int .i64 s.1, .int .i64 s.2])) (hg : W.grownBy W' (Value.slice A m C).ownBlock) : RordM w S (m + 1) tv t A' C' (out ++ [s]) st W' := by
  have k : Keep (fun x => (Value.slice A m C).ownBlock = some x) W W' := (Keep.refl _ _).grown hg (fun g e => Or.inl e)
  refine ⟨h.ext.grown hg (fun g e => (h.own.lt g e).1), k.blk h.tb (fun e => own_blk_ne h.own h.tb (by decide) e), k.blk h.state (fun e => own_blk_ne h.own h.state (by decide) e), ?_⟩
  obtain ⟨x, y⟩ := s
  rw [stepCells_app]
  exact ho
end
set_option maxHeartbeats 3200000 in
set_option maxRecDepth 100000 in
theorem rOrder_calls (wv pv : Value) (t : List WishD) (pick : List Int) (w : World) (h : Wishes w wv t) (hp : Ints w pv pick) :
    Calls Try.prog 27 #[.agg #[wv], pv] w fun e w' => ∃ v, e = .returned (.tuple #[v, .int .i64 (orderS t pick).2]) ∧ StepsO w' w.heap.size v (orderS t pick).1 ∧ Ext w w' := by
  have hT := Lib.hid h
  have hP := Lib.hid hp
  obtain ⟨ta, tc, rfl⟩ := h.form
  obtain ⟨pa, pc, rfl, hpn, hpc, _⟩ := hp.open
  obtain ⟨j0, hj0, jz0, jz1, jz2⟩ := info_parts step_info
  clear h hp
  obtain ⟨z, hz⟩ : ∃ z, Hid (validT t = z) := ⟨_, rfl⟩
  have hval : Hid (∀ W, Ext w W → Calls Try.prog 61 #[.agg #[.slice ta t.length tc]] W fun e w' => e = .returned (.int .i64 z) ∧ Ext W w') := fun W hW => hz.out ▸ rValid_calls _ t W (hT.out.ext hW)
  go_enter Try.func27, Try.ntmps27
  go_wp2_with fail
  refine (hval.out _ (by repeat' (first | (with_reducible exact Ext.refl _) | (with_reducible assumption) | (with_reducible refine Ext.drewN ?_ _) | (with_reducible refine Ext.drew ?_) | (with_reducible refine Ext.alloc ?_ _) | (with_reducible refine Ext.trans ?_ (by with_reducible assumption))))).mono ?_
  rintro e w1 ⟨rfl, hx1⟩
  have hA1 : Hid (Blk w1 w.heap.size 27 #[.slice ta t.length tc]) := Lib.hid ((Keep.of_ext (X := fun _ => False) hx1).blk (blk_new' rfl rfl) id)
  have hE1 : Hid (Ext w w1) := Lib.hid ((((Ext.refl w).alloc _)).trans hx1)
  clear hx1 hval
  by_cases h0 : z = 0
  · have hz0 : (z != 0) = false := by simp [h0]
    have hv : Hid (validT t = 0) := hz.out.trans h0
    clear hz h0
    obtain ⟨q, hq⟩ : ∃ q, Hid (lawfulB t pick = q) := ⟨_, rfl⟩
    have hlf := Lib.hid (rLawful_calls _ _ t pick w1 (hT.out.ext hE1.out) (hP.out.ext hE1.out))
    rw [hq.out] at hlf
    have c0 : w1.cell? ⟨w.heap.size, 0, none⟩ = some (.slice ta t.length tc) := hA1.out.cell 0
    go_wp2_with fail
    refine hlf.out.mono ?_
    rintro e w2 ⟨rfl, hx2⟩
    have hA2 : Hid (Blk w2 w.heap.size 27 #[.slice ta t.length tc]) := Lib.hid ((Keep.of_ext (X := fun _ => False) hx2).blk hA1.out id)
    have hE2 := Lib.hid (hE1.out.trans hx2)
    clear hx2 hlf hA1 hE1 c0
    cases q with
    | false =>
      have R : Hid (orderS t pick = ([], 1)) := by show _ = _; unfold orderS; rw [if_pos hv.out, hq.out]; rfl
      clear hq
      go_wp2
      go_ret2
      rw [R.out]
      exact ⟨_, rfl, StepsO.nil _ _, hE2.out⟩
    | true =>
      have hpl := Lib.hid (lawful_len hq.out)
      obtain ⟨hb1, hb2⟩ := stepsT_bd hv.out
      have R : Hid (orderS t pick = (orderL t pick, 0)) := by show _ = _; unfold orderS; rw [if_pos hv.out, hq.out]; rfl
      have hL1 : (orderL t pick).length ≤ 1024 := by have := (order_spec hq.out).2.2.1; have := left_zeros_le pick t.length; omega
      have hW0 := Lib.hid (Way.begin hq.out)
      obtain ⟨n, hn⟩ : ∃ n, Hid (t.length = n) := ⟨_, rfl⟩
      have hn2 : n ≤ 512 := by have := hn.out; omega
      have hpn' : Hid (pick.length = n) := hpl.out.trans hn.out
      obtain ⟨pv', hpv⟩ : ∃ k, Hid (pick.length = k) := ⟨_, rfl⟩
      have hmk := run_make_ints pick.length (by have := hpn'.out; omega)
      have hsw := hE2.out.size
      have hM0 : Hid (RordM w (w2.heap.size + 1) 0 (.slice ta t.length tc) t (some ⟨w2.heap.size, 0, none⟩) 0 [] (zeros t.length) ((w2.alloc (.cells #[] 42)).alloc (.cells (zerosV pick.length) 3))) := by
        refine Lib.hid ⟨(hE2.out.alloc _).alloc _, (hA2.out.alloc _).alloc _, ?_, ?_⟩
        · have := St.new (w2.alloc (.cells #[] 42)) t.length
          rw [World.size_alloc] at this
          rw [hpl.out]
          exact this
        · exact World.ownsRow.alloc (World.ownsRow_made (base := w.heap.size) (e := 42) (size := 2) w2 #[] 0 hsw (by unfold maxLen; omega) rfl) _
      have hpath0 : Hid (orderL t pick = [] ++ ordF t pick (left pick (zeros t.length)) (zeros t.length)) := rfl
      clear hA2 hE2 hpv
      go_wp2_with fail
      go_loopw [8, 10] (fun v8 _ wr => ∃ (m : Nat) (A : Option Addr) (C : Nat) (out : List StepD) (st : List Int), v8 = .slice A m C ∧ m ≤ 1024 ∧ Hid (m = out.length) ∧ Hid (RordM w (w2.heap.size + 1) m (.slice ta t.length tc) t A C out st wr) ∧ Hid (Way t pick st) ∧ Hid (orderL t pick = out ++ ordF t pick (left pick st) st)) (fun v8 _ _ => 1025 - sliceLen v8)
      case atStart => exact ⟨0, _, _, [], zeros t.length, rfl, by omega, rfl, hM0, hW0, hpath0⟩
      case round =>
        clear hM0 hW0 hpath0
        obtain ⟨m, A, C, out, st, rfl, hm1, hm, hM, hWay, hpath⟩ := hrel
        have hsl := Lib.hid hWay.out.len
        have hsv : Hid (Ints wr (.slice (some ⟨w2.heap.size + 1, 0, none⟩) pick.length pick.length) st) := by
          have := hM.out.state.read (by rw [hsl.out]; unfold maxLen; omega)
          rw [hsl.out, ← hpl.out] at this
          exact this
        obtain ⟨b, hb⟩ : ∃ b, Hid (decide (st = pick) = b) := ⟨_, rfl⟩
        have hsm := Lib.hid (rSame35_calls _ _ st pick wr hsv.out (hP.out.ext hM.out.ext))
        rw [hb.out] at hsm
        go_wp2_with fail
        refine hsm.out.mono ?_
        rintro e w3 ⟨rfl, hx3⟩
        have hM3 := Lib.hid (hM.out.toExt hx3)
        have hsv3 := Lib.hid (hsv.out.ext hx3)
        clear hsm hx3 hM hsv
        cases b with
        | true =>
          have R2 : Hid (orderL t pick = out) := by show _ = _; rw [hpath.out, ord_end ((go_none hWay.out).2 (of_decide_eq_true hb.out)), List.append_nil]
          clear hb hpath
          go_wp2
          go_ret2
          rw [R.out, R2.out]
          refine ⟨_, rfl, ?_, hM3.out.ext⟩
          have := hM3.out.own
          unfold StepsO
          dsimp only
          rw [← hm.out]
          exact this
        | false =>
          have c0 : w3.cell? ⟨w.heap.size, 0, none⟩ = some (.slice ta t.length tc) := hM3.out.tb.cell 0
          have hnx := Lib.hid (rNext_calls _ _ _ t pick st w3 (hT.out.ext hM3.out.ext) hsv3.out (hP.out.ext hM3.out.ext) (hpl.out.trans hsl.out.symm) hv.out hWay.out.calm (by rw [hsl.out]; exact hb2))
          cases hgo : goS t pick st with
          | none => exact absurd ((go_none hWay.out).1 hgo) (of_decide_eq_false hb.out)
          | some s =>
            obtain ⟨hw2, _, _, i, hi, hs, _⟩ := hWay.out.step hgo
            obtain ⟨x, y⟩ := s
            dsimp only at hs
            subst hs
            have hnext : Hid (ordF t pick (left pick st) st = ((i : Int), y) :: ordF t pick (left pick (stepS st ((i : Int), y))) (stepS st ((i : Int), y))) := ord_next hWay.out hgo
            have hst2 : Hid (stepS st ((i : Int), y) = st.set i y) := by show _ = _; simp [stepS]
            have hmlt : m + 1 ≤ 1024 := by
              have := congrArg List.length hpath.out
              rw [hnext.out, List.length_append, List.length_cons, ← hm.out] at this
              omega
            have hpath2 : Hid (orderL t pick = (out ++ [((i : Int), y)]) ++ ordF t pick (left pick (st.set i y)) (st.set i y)) := by
              show _ = _
              rw [hpath.out, hnext.out, hst2.out]
              simp
            have hway2 : Hid (Way t pick (st.set i y)) := by rw [← hst2.out]; exact hw2
            rw [hgo] at hnx
            have hnx' : Hid (Calls Try.prog 62 #[.agg #[.slice ta t.length tc], .slice (some ⟨w2.heap.size + 1, 0, none⟩) pick.length pick.length, .slice pa pick.length pc] w3 fun e w' => e = .returned (.agg #[.int .i64 (i : Int), .int .i64 y]) ∧ Ext w3 w') := hnx
            have hil : i < st.length := by have := hsl.out; omega
            have hip : i < pick.length := by have := hpl.out; omega
            clear hnx hgo hpath hnext hst2 hw2 hWay hb
            go_wp2_with fail
            refine hnx'.out.mono ?_
            rintro e w4 ⟨rfl, hx4⟩
            have hM4 := Lib.hid (hM3.out.toExt hx4)
            clear hnx' hx4 hM3 hsv3 c0
            go_upto_region 11 with (fail)
            refine wp_abs (S := fun V => Hid (RordM w (w2.heap.size + 1) m (.slice ta t.length tc) t A C out st V) ∧ w4.heap.size < V.heap.size ∧ V.cell? ⟨w4.heap.size, 0, none⟩ = some (.int .i64 i) ∧ V.cell? ⟨w4.heap.size, 1, none⟩ = some (.int .i64 y)) ?_ ?_
            · exact ⟨Lib.hid (hM4.out.toExt (by repeat' (first | (with_reducible exact Ext.refl _) | (with_reducible assumption) | (with_reducible refine Ext.drewN ?_ _) | (with_reducible refine Ext.drew ?_) | (with_reducible refine Ext.alloc ?_ _) | (with_reducible refine Ext.trans ?_ (by with_reducible assumption))))), by simp, by simp, by simp⟩
            rintro V ⟨hV, hlV, k0, k1⟩
            have h4 := hM4.out.state.lt
            clear hM4
            have m1 := hV.out.state.cell hil
            have m2 := hV.out.state.frozen i
            have lg4 := hV.out.state.lt
            go_upto_region 12 with (fail)
            refine wp_abs (S := fun V => Hid (RordM w (w2.heap.size + 1) m (.slice ta t.length tc) t A C out (st.set i y) V) ∧ V.cell? ⟨w4.heap.size, 0, none⟩ = some (.int .i64 i) ∧ V.cell? ⟨w4.heap.size, 1, none⟩ = some (.int .i64 y)) ?_ ?_
            · have k := keep_set V (w2.heap.size + 1) i (.int .i64 y)
              exact ⟨Lib.hid (hV.out.setSt (by omega) i y), k.cell k0 (by dsimp only; omega), k.cell k1 (by dsimp only; omega)⟩
            clear hV k0 k1 m1 m2 lg4 h4 hlV
            rintro V2 ⟨hV, k0, k1⟩
            have hs2 := hV.out.ext.size
            go_wp2_with (at_builtin; refine wpList_append_any _ rfl (.tmp 39) (.tmp 41) _ rfl w.heap.size 42 j0 _ 2 16 Try.underlying32 hj0 jz0 jz1 jz2 rfl (by decide) (.slice A m C) m (spanCells out) rfl (hV.out.own.alloc _) (V2.heap.size + 1) (some ⟨V2.heap.size, 0, none⟩) 1 1 [.int .i64 (i : Int), .int .i64 y] rfl (reads_last _ #[_, _] _ 2 1 _ _ rfl (by omega) rfl) (two_ints _ _) (by unfold maxLen; omega) (by omega) (by rw [World.size_alloc]; omega) ?_; intro v5 w5 hown5 hg5 hat5; obtain ⟨A5, C5, rfl⟩ := owns_form hown5)
            have hM5 : Hid (RordM w (w2.heap.size + 1) (m + 1) (.slice ta t.length tc) t A5 C5 (out ++ [((i : Int), y)]) (st.set i y) w5) :=
              Lib.hid ((hV.out.toExt ((Ext.refl V2).alloc (.cells #[.int .i64 (i : Int), .int .i64 y] 42))).push (s := ((i : Int), y)) hown5 hg5)
            have hm5 : Hid (m + 1 = (out ++ [((i : Int), y)]).length) := by show _ = _; rw [List.length_append, ← hm.out]; rfl
            clear hown5 hg5 hat5 hV hm k0 k1
            go_wp2
            go_roundw
            case rel => first | exact ⟨m + 1, A5, C5, _, _, rfl, hmlt, hm5, hM5, hway2, hpath2⟩ | ((repeat apply Exists.intro); exact ⟨⟨m + 1, A5, C5, _, _, rfl, hmlt, hm5, hM5, hway2, hpath2⟩, rfl⟩)
            case measure => simp [sliceLen]; omega
  · have hz0 : (z != 0) = true := by simp [h0]
    have R : Hid (orderS t pick = ([], z)) := by show _ = _; unfold orderS; rw [hz.out, if_neg h0]
    clear hz h0
    go_wp2
    go_ret2
    rw [R.out]
    exact ⟨_, rfl, StepsO.nil _ _, hE1.out⟩
end Go.Proofs.Ytkicielleiafgaa

/- Walk of the reference of carry: Check. -/
namespace Go.Proofs.Ytkicielleiafgaa
open Go.RowKit

theorem okMove_at1 {p a : Int} {m : List Int} (h : p ≠ 0) (hn : m.length = 1) (ha : m[0]? = some a) : okMove p m = decide (a = p) := by
  match m, hn with
  | [x], _ =>
    obtain rfl : x = a := by simpa using ha
    exact okMove_one h
theorem okMove_at2 {p a b : Int} {m : List Int} (h : p ≠ 0) (hn : m.length = 2) (ha : m[0]? = some a) (hb : m[1]? = some b) : okMove p m = (decide (b = p) && decide (a = -1)) := by
  match m, hn with
  | [x, y], _ =>
    obtain rfl : x = a := by simpa using ha
    obtain rfl : y = b := by simpa using hb
    exact okMove_two h
theorem checkS_ok {t : List WishD} {pick : List Int} {l : List StepD} (hlw : lawfulB t pick = true) (hs : stepsT t l = 0) : checkS t pick l = if movesOkB pick l && calmWay t (zeros pick.length) l then 0 else 11 := by
  unfold checkS
  rw [if_pos (lawful_parts hlw).1, if_pos hlw, if_pos hs]
def AfterCon (st : List Int) (n : Nat) (q : Bool) (k : Nat) (v : Value) (W : World) : Prop := (k = 4 → ∃ K, v = .slice (some ⟨K, 0, none⟩) n n ∧ Ints W v st) ∧ (k = 5 → v = .bool q)
set_option maxHeartbeats 6400000 in
set_option maxRecDepth 100000 in
theorem rCheck35_calls (wv pv sv : Value) (t : List WishD) (pick : List Int) (l : List (Int × Int)) (w : World) (h : Wishes w wv t) (hp : Ints w pv pick) (hs : Spans w sv l) :
    Calls Try.prog 30 #[.agg #[wv], pv, sv] w fun e w' => e = .returned (.int .i64 (checkS t pick l)) ∧ Ext w w' := by
  have hT := Lib.hid h
  have hS := Lib.hid hs
  have hP := Lib.hid hp
  obtain ⟨ta, tc, rfl⟩ := h.form
  obtain ⟨sa, sc, rfl⟩ := hs.form
  obtain ⟨pa, pc, rfl, hpn, hpc, pat⟩ := hp.open
  have pat' := Lib.hid pat
  have ll := hs.len
  clear h hs hp pat
  obtain ⟨z, hz⟩ : ∃ z, Hid (validT t = z) := ⟨_, rfl⟩
  have hval : Hid (∀ W, Ext w W → Calls Try.prog 61 #[.agg #[.slice ta t.length tc]] W fun e w' => e = .returned (.int .i64 z) ∧ Ext W w') := fun W hW => hz.out ▸ rValid_calls _ t W (hT.out.ext hW)
  go_enter Try.func30, Try.ntmps30
  go_wp2_with fail
  refine (hval.out _ (by repeat' (first | (with_reducible exact Ext.refl _) | (with_reducible assumption) | (with_reducible refine Ext.drewN ?_ _) | (with_reducible refine Ext.drew ?_) | (with_reducible refine Ext.alloc ?_ _) | (with_reducible refine Ext.trans ?_ (by with_reducible assumption))))).mono ?_
  rintro e w1 ⟨rfl, hx1⟩
  have hA1 : Hid (Blk w1 w.heap.size 27 #[.slice ta t.length tc]) := Lib.hid ((Keep.of_ext (X := fun _ => False) hx1).blk (blk_new' rfl rfl) id)
  have hE1 : Hid (Ext w w1) := Lib.hid ((((Ext.refl w).alloc _)).trans hx1)
  clear hx1 hval
  by_cases h0 : z = 0
  · have hz0 : (z != 0) = false := by simp [h0]
    have hv : Hid (validT t = 0) := hz.out.trans h0
    clear hz h0
    obtain ⟨q, hq⟩ : ∃ q, Hid (lawfulB t pick = q) := ⟨_, rfl⟩
    have hlf := Lib.hid (rLawful_calls _ _ t pick w1 (hT.out.ext hE1.out) (hP.out.ext hE1.out))
    rw [hq.out] at hlf
    have c0 : w1.cell? ⟨w.heap.size, 0, none⟩ = some (.slice ta t.length tc) := hA1.out.cell 0
    go_wp2_with fail
    refine hlf.out.mono ?_
    rintro e w2 ⟨rfl, hx2⟩
    have hA2 : Hid (Blk w2 w.heap.size 27 #[.slice ta t.length tc]) := Lib.hid ((Keep.of_ext (X := fun _ => False) hx2).blk hA1.out id)
    have hE2 := Lib.hid (hE1.out.trans hx2)
    clear hx2 hlf hA1 hE1 c0
    cases q with
    | false =>
      have R : Hid (checkS t pick l = 1) := by show _ = _; unfold checkS; rw [if_pos hv.out, hq.out]; rfl
      clear hq
      go_wp2
      go_ret
      rw [R.out]
      exact ⟨rfl, hE2.out⟩
    | true =>
      obtain ⟨y, hy⟩ : ∃ y, Hid (stepsT t l = y) := ⟨_, rfl⟩
      have hvs := Lib.hid (rValid35_calls _ _ t l w2 (hT.out.ext hE2.out) (hS.out.ext hE2.out))
      rw [hy.out] at hvs
      have c0 : w2.cell? ⟨w.heap.size, 0, none⟩ = some (.slice ta t.length tc) := hA2.out.cell 0
      go_wp2_with fail
      refine hvs.out.mono ?_
      rintro e w3 ⟨rfl, hx3⟩
      have hA3 : Hid (Blk w3 w.heap.size 27 #[.slice ta t.length tc]) := Lib.hid ((Keep.of_ext (X := fun _ => False) hx3).blk hA2.out id)
      have hE3 := Lib.hid (hE2.out.trans hx3)
      clear hx3 hvs hA2 hE2 c0
      by_cases h1 : y = 0
      · have hy0 : (y != 0) = false := by simp [h1]
        have hs0 : Hid (stepsT t l = 0) := hy.out.trans h1
        obtain ⟨_, hok, hll⟩ := stepsT_ok hs0.out
        have hok' := Lib.hid hok
        obtain ⟨hb1, hb2⟩ := stepsT_bd hv.out
        have hck := Lib.hid (checkS_ok hq.out hs0.out)
        have hpl := Lib.hid (lawful_len hq.out)
        clear hy h1 hok hq
        go_wp2_with fail
        go_loopw [9, 10] (fun v9 _ wr => ∃ i : Nat, i ≤ pick.length ∧ v9 = .int .i64 i ∧ Hid (Ext w wr) ∧ Hid (Blk wr w.heap.size 27 #[.slice ta t.length tc]) ∧ Hid (∀ j, j < i → okMove (atI pick j) (movesOf l j) = true)) (fun v9 _ _ => pick.length - (intOf v9).toNat)
        case atStart => exact ⟨0, by omega, rfl, hE3, hA3, Lib.hid (fun j h => by omega)⟩
        case round =>
          clear hE3 hA3
          obtain ⟨i, hi, rfl, hx, hA, hF⟩ := hrel
          by_cases h1 : i < pick.length
          · have hso := Lib.hid (rStepsOf_calls _ l i wr (hS.out.ext hx.out) hll)
            go_wp2_with fail
            refine hso.out.mono ?_
            rintro e w4 ⟨v, rfl, hM, hx4⟩
            have hA4 : Hid (Blk w4 w.heap.size 27 #[.slice ta t.length tc]) := Lib.hid ((Keep.of_ext (X := fun _ => False) hx4).blk hA.out id)
            have hE4 := Lib.hid (hx.out.trans hx4)
            clear hx4 hso hA hx
            obtain ⟨b1, o1, p, rfl, hb1, _, ep, g1⟩ := pat'.out i h1 w4 hE4.out
            have hpi : Hid (atI pick i = p) := atI_some ep.out
            obtain ⟨m, hm⟩ : ∃ m, Hid (movesOf l i = m) := ⟨_, rfl⟩
            rw [hm.out] at hM
            obtain ⟨ma, mc, rfl, hmn, hmc, mat⟩ := hM.open
            have mat' := Lib.hid mat
            obtain ⟨n, hn⟩ : ∃ n, Hid (m.length = n) := ⟨_, rfl⟩
            rw [hn.out] at hmn ⊢
            clear hM mat ep
            by_cases hp0 : p = 0
            · subst hp0
              by_cases hn0 : n = 0
              · subst hn0
                have hgood : Hid (okMove 0 m = true) := by show _ = _; rw [okMove_zero, hn.out]; rfl
                have R : Hid (∀ j, j < i + 1 → okMove (atI pick j) (movesOf l j) = true) := fun j hj => by
                  rcases Nat.lt_succ_iff_lt_or_eq.1 hj with h | rfl
                  · exact hF.out j h
                  · rw [hpi.out, hm.out]; exact hgood.out
                clear hF hgood hm hn
                go_wp2
                go_roundw
                case rel => first | exact ⟨i + 1, by omega, by go_num, hE4, hA4, R⟩ | ((repeat apply Exists.intro); exact ⟨⟨i + 1, by omega, by go_num, hE4, hA4, R⟩, rfl⟩)
                case measure => simp [intOf]; omega
              · have hbad : Hid (okMove 0 m = false) := by show _ = _; rw [okMove_zero, hn.out]; exact decide_eq_false hn0
                have d1 : decide (0 < n) = true := decide_eq_true (by omega)
                have R : Hid (checkS t pick l = 11) := by
                  show _ = _
                  rw [hck.out, movesOk_no h1 (by rw [hpi.out, hm.out]; exact hbad.out)]
                  rfl
                clear hF hbad hck hm hn
                go_wp2
                go_ret
                rw [R.out]
                exact ⟨rfl, hE4.out⟩
            · have dp : (p == 0) = false := by simpa using hp0
              by_cases hn0 : n = 0
              · subst hn0
                have hbad : Hid (okMove p m = false) := by
                  show _ = _
                  rw [List.length_eq_zero_iff.1 hn.out]
                  exact okMove_none hp0
                clear hp0
                have R : Hid (checkS t pick l = 11) := by
                  show _ = _
                  rw [hck.out, movesOk_no h1 (by rw [hpi.out, hm.out]; exact hbad.out)]
                  rfl
                clear hF hbad hck hm hn
                go_upto_region 17 with (fail)
                have z1 := After.cell g1
                skip
                refine wp_region_after (by kernel_rfl) (by kernel_rfl) ?_
                repeat (go_big_quiet_step (fail))
                refine wpQuiet_nil ?_
                rintro _ ⟨u, rfl⟩
                have hu := u.ext
                generalize u.world = V at hu ⊢
                clear z1
                skip
                have hEV := Lib.hid (hE4.out.trans hu)
                have hAV : Hid (Blk V w.heap.size 27 #[.slice ta t.length tc]) := Lib.hid ((Keep.of_ext (X := fun _ => False) hu).blk hA4.out id)
                clear hu hE4 hA4 g1
                go_wp2
                go_ret
                rw [R.out]
                exact ⟨rfl, hEV.out⟩
              · have dn : ((n : Int) == 0) = false := by rw [beq_eq_false_iff_ne]; omega
                by_cases hn2 : 2 < n
                · have d2 : decide ((2 : Int) < (n : Int)) = true := decide_eq_true (by omega)
                  have hbad : Hid (okMove p m = false) := okMove_more hp0 (by rw [hn.out]; exact hn2)
                  clear hp0
                  have R : Hid (checkS t pick l = 11) := by
                    show _ = _
                    rw [hck.out, movesOk_no h1 (by rw [hpi.out, hm.out]; exact hbad.out)]
                    rfl
                  clear hF hbad hck hm hn
                  go_upto_region 17 with (fail)
                  have z1 := After.cell g1
                  skip
                  refine wp_region_after (by kernel_rfl) (by kernel_rfl) ?_
                  repeat (go_big_quiet_step (fail))
                  refine wpQuiet_nil ?_
                  rintro _ ⟨u, rfl⟩
                  have hu := u.ext
                  generalize u.world = V at hu ⊢
                  clear z1
                  skip
                  have hEV := Lib.hid (hE4.out.trans hu)
                  have hAV : Hid (Blk V w.heap.size 27 #[.slice ta t.length tc]) := Lib.hid ((Keep.of_ext (X := fun _ => False) hu).blk hA4.out id)
                  clear hu hE4 hA4 g1
                  go_wp2
                  go_ret
                  rw [R.out]
                  exact ⟨rfl, hEV.out⟩
                · obtain ⟨b2, o2, a, rfl, hb2, _, ea, k0⟩ := mat'.out 0 (by have := hn.out; omega) w4 (Ext.refl _)
                  rw [Nat.add_zero] at k0
                  by_cases hn1 : n = 1
                  · subst hn1
                    have hmv : Hid (okMove p m = decide (a = p)) := okMove_at1 hp0 hn.out ea.out
                    clear hp0 ea mat' hn0 hn2 dn
                    by_cases hap : a = p
                    · have e1 : (a != p) = false := by simp [hap]
                      have hgood : Hid (okMove p m = true) := by show _ = _; rw [hmv.out]; exact decide_eq_true hap
                      clear hmv hap
                      have R : Hid (∀ j, j < i + 1 → okMove (atI pick j) (movesOf l j) = true) := fun j hj => by
                        rcases Nat.lt_succ_iff_lt_or_eq.1 hj with h | rfl
                        · exact hF.out j h
                        · rw [hpi.out, hm.out]; exact hgood.out
                      clear hF hgood hm hn
                      go_upto_region 17 with (fail)
                      have z1 := After.cell g1
                      have z2 := After.cell k0
                      refine wp_region_after (by kernel_rfl) (by kernel_rfl) ?_
                      repeat (go_big_quiet_step (fail))
                      refine wpQuiet_nil ?_
                      rintro _ ⟨u, rfl⟩
                      have hu := u.ext
                      generalize u.world = V at hu ⊢
                      clear z1
                      clear z2
                      have hEV := Lib.hid (hE4.out.trans hu)
                      have hAV : Hid (Blk V w.heap.size 27 #[.slice ta t.length tc]) := Lib.hid ((Keep.of_ext (X := fun _ => False) hu).blk hA4.out id)
                      clear hu hE4 hA4 g1
                      go_wp2
                      go_roundw
                      case rel => first | exact ⟨i + 1, by omega, by go_num, hEV, hAV, R⟩ | ((repeat apply Exists.intro); exact ⟨⟨i + 1, by omega, by go_num, hEV, hAV, R⟩, rfl⟩)
                      case measure => simp [intOf]; omega
                    · have e1 : (a != p) = true := by simp [hap]
                      have hbad : Hid (okMove p m = false) := by show _ = _; rw [hmv.out]; exact decide_eq_false hap
                      clear hmv hap
                      have R : Hid (checkS t pick l = 11) := by
                        show _ = _
                        rw [hck.out, movesOk_no h1 (by rw [hpi.out, hm.out]; exact hbad.out)]
                        rfl
                      clear hF hbad hck hm hn
                      go_upto_region 17 with (fail)
                      have z1 := After.cell g1
                      have z2 := After.cell k0
                      refine wp_region_after (by kernel_rfl) (by kernel_rfl) ?_
                      repeat (go_big_quiet_step (fail))
                      refine wpQuiet_nil ?_
                      rintro _ ⟨u, rfl⟩
                      have hu := u.ext
                      generalize u.world = V at hu ⊢
                      clear z1
                      clear z2
                      have hEV := Lib.hid (hE4.out.trans hu)
                      have hAV : Hid (Blk V w.heap.size 27 #[.slice ta t.length tc]) := Lib.hid ((Keep.of_ext (X := fun _ => False) hu).blk hA4.out id)
                      clear hu hE4 hA4 g1
                      go_wp2
                      go_ret
                      rw [R.out]
                      exact ⟨rfl, hEV.out⟩
                  · obtain rfl : n = 2 := by omega
                    obtain ⟨b3, o3, b, eb, hb3, _, eb', k1⟩ := mat'.out 1 (by have := hn.out; omega) w4 (Ext.refl _)
                    cases eb
                    have hmv : Hid (okMove p m = (decide (b = p) && decide (a = -1))) := okMove_at2 hp0 hn.out ea.out eb'.out
                    clear hp0 ea eb' mat' hn0 hn2 hn1 dn
                    by_cases hbp : b = p
                    · have e1 : (b != p) = false := by simp [hbp]
                      by_cases ha1 : a = -1
                      · have e3 : (a != -1) = false := by simp [ha1]
                        have hgood : Hid (okMove p m = true) := by show _ = _; rw [hmv.out, decide_eq_true hbp, decide_eq_true ha1]; rfl
                        obtain ⟨q, hq2⟩ : ∃ q, (a != p) = q := ⟨_, rfl⟩
                        clear hmv hbp ha1
                        have R : Hid (∀ j, j < i + 1 → okMove (atI pick j) (movesOf l j) = true) := fun j hj => by
                          rcases Nat.lt_succ_iff_lt_or_eq.1 hj with h | rfl
                          · exact hF.out j h
                          · rw [hpi.out, hm.out]; exact hgood.out
                        clear hF hgood hm hn
                        cases q with
                        | true =>
                          go_upto_region 17 with (fail)
                          have z1 := After.cell g1
                          have z2 := After.cell k0; have z3 := After.cell k1
                          refine wp_region_after (by kernel_rfl) (by kernel_rfl) ?_
                          repeat (go_big_quiet_step (fail))
                          refine wpQuiet_nil ?_
                          rintro _ ⟨u, rfl⟩
                          have hu := u.ext
                          generalize u.world = V at hu ⊢
                          clear z1
                          clear z2 z3; have kV := hu.cell k0
                          have hEV := Lib.hid (hE4.out.trans hu)
                          have hAV : Hid (Blk V w.heap.size 27 #[.slice ta t.length tc]) := Lib.hid ((Keep.of_ext (X := fun _ => False) hu).blk hA4.out id)
                          clear hu hE4 hA4 g1
                          go_wp2
                          go_roundw
                          case rel => first | exact ⟨i + 1, by omega, by go_num, hEV, hAV, R⟩ | ((repeat apply Exists.intro); exact ⟨⟨i + 1, by omega, by go_num, hEV, hAV, R⟩, rfl⟩)
                          case measure => simp [intOf]; omega
                        | false =>
                          go_upto_region 17 with (fail)
                          have z1 := After.cell g1
                          have z2 := After.cell k0; have z3 := After.cell k1
                          refine wp_region_after (by kernel_rfl) (by kernel_rfl) ?_
                          repeat (go_big_quiet_step (fail))
                          refine wpQuiet_nil ?_
                          rintro _ ⟨u, rfl⟩
                          have hu := u.ext
                          generalize u.world = V at hu ⊢
                          clear z1
                          clear z2 z3; have kV := hu.cell k0
                          have hEV := Lib.hid (hE4.out.trans hu)
                          have hAV : Hid (Blk V w.heap.size 27 #[.slice ta t.length tc]) := Lib.hid ((Keep.of_ext (X := fun _ => False) hu).blk hA4.out id)
                          clear hu hE4 hA4 g1
                          go_wp2
                          go_roundw
                          case rel => first | exact ⟨i + 1, by omega, by go_num, hEV, hAV, R⟩ | ((repeat apply Exists.intro); exact ⟨⟨i + 1, by omega, by go_num, hEV, hAV, R⟩, rfl⟩)
                          case measure => simp [intOf]; omega
                      · have e3 : (a != -1) = true := by simp [ha1]
                        have hbad : Hid (okMove p m = false) := by show _ = _; rw [hmv.out, decide_eq_false ha1, Bool.and_false]
                        obtain ⟨q, hq2⟩ : ∃ q, (a != p) = q := ⟨_, rfl⟩
                        clear hmv hbp ha1
                        have R : Hid (checkS t pick l = 11) := by
                          show _ = _
                          rw [hck.out, movesOk_no h1 (by rw [hpi.out, hm.out]; exact hbad.out)]
                          rfl
                        clear hF hbad hck hm hn
                        cases q with
                        | true =>
                          go_upto_region 17 with (fail)
                          have z1 := After.cell g1
                          have z2 := After.cell k0; have z3 := After.cell k1
                          refine wp_region_after (by kernel_rfl) (by kernel_rfl) ?_
                          repeat (go_big_quiet_step (fail))
                          refine wpQuiet_nil ?_
                          rintro _ ⟨u, rfl⟩
                          have hu := u.ext
                          generalize u.world = V at hu ⊢
                          clear z1
                          clear z2 z3; have kV := hu.cell k0
                          have hEV := Lib.hid (hE4.out.trans hu)
                          have hAV : Hid (Blk V w.heap.size 27 #[.slice ta t.length tc]) := Lib.hid ((Keep.of_ext (X := fun _ => False) hu).blk hA4.out id)
                          clear hu hE4 hA4 g1
                          go_wp2
                          go_ret
                          rw [R.out]
                          exact ⟨rfl, hEV.out⟩
                        | false =>
                          go_upto_region 17 with (fail)
                          have z1 := After.cell g1
                          have z2 := After.cell k0; have z3 := After.cell k1
                          refine wp_region_after (by kernel_rfl) (by kernel_rfl) ?_
                          repeat (go_big_quiet_step (fail))
                          refine wpQuiet_nil ?_
                          rintro _ ⟨u, rfl⟩
                          have hu := u.ext
                          generalize u.world = V at hu ⊢
                          clear z1
                          clear z2 z3; have kV := hu.cell k0
                          have hEV := Lib.hid (hE4.out.trans hu)
                          have hAV : Hid (Blk V w.heap.size 27 #[.slice ta t.length tc]) := Lib.hid ((Keep.of_ext (X := fun _ => False) hu).blk hA4.out id)
                          clear hu hE4 hA4 g1
                          go_wp2
                          go_ret
                          rw [R.out]
                          exact ⟨rfl, hEV.out⟩
                    · have e1 : (b != p) = true := by simp [hbp]
                      have hbad : Hid (okMove p m = false) := by show _ = _; rw [hmv.out, decide_eq_false hbp]; rfl
                      clear hmv hbp
                      have R : Hid (checkS t pick l = 11) := by
                        show _ = _
                        rw [hck.out, movesOk_no h1 (by rw [hpi.out, hm.out]; exact hbad.out)]
                        rfl
                      clear hF hbad hck hm hn
                      go_upto_region 17 with (fail)
                      have z1 := After.cell g1
                      have z2 := After.cell k0; have z3 := After.cell k1
                      refine wp_region_after (by kernel_rfl) (by kernel_rfl) ?_
                      repeat (go_big_quiet_step (fail))
                      refine wpQuiet_nil ?_
                      rintro _ ⟨u, rfl⟩
                      have hu := u.ext
                      generalize u.world = V at hu ⊢
                      clear z1
                      clear z2 z3
                      have hEV := Lib.hid (hE4.out.trans hu)
                      have hAV : Hid (Blk V w.heap.size 27 #[.slice ta t.length tc]) := Lib.hid ((Keep.of_ext (X := fun _ => False) hu).blk hA4.out id)
                      clear hu hE4 hA4 g1
                      go_wp2
                      go_ret
                      rw [R.out]
                      exact ⟨rfl, hEV.out⟩
          · have hmo : Hid (movesOkB pick l = true) := movesOk_yes fun j hj => hF.out j (by omega)
            obtain ⟨wA, hwA⟩ : ∃ wA : World, Hid (wr = wA) := ⟨_, rfl⟩
            clear hF pat'
            go_wp2_with fail
            rw [hwA.out] at hx hA
            rw [hwA.out]
            clear hwA
            go_loopw [11] (fun vi wr => ∃ n : Nat, n ≤ l.length + 1 ∧ vi = .int .i64 n ∧ Hid (Ext w wr) ∧ Hid (Blk wr w.heap.size 27 #[.slice ta t.length tc]) ∧ Hid (∀ j, j < n → calmB t (stAt t l j) = true)) (fun vi _ => l.length + 1 - (intOf vi).toNat)
            case atStart => exact ⟨0, by omega, rfl, hx, hA, Lib.hid (fun j h => by omega)⟩
            case round =>
              clear hx hA
              obtain ⟨n, hn, rfl, hx, hA, hG⟩ := hrel
              by_cases h2 : n ≤ l.length
              · have haf := Lib.hid (fun W (hW : Ext wr W) => rAfter_calls _ _ t l n W (hT.out.ext (hx.out.trans hW)) (hS.out.ext (hx.out.trans hW)) hok'.out hb2 h2)
                obtain ⟨q, hq⟩ : ∃ q, Hid (calmB t (stAt t l n) = q) := ⟨_, rfl⟩
                have c0 : wr.cell? ⟨w.heap.size, 0, none⟩ = some (.slice ta t.length tc) := hA.out.cell 0
                go_upto_region 24 with (fail)
                have z1 := After.cell c0
                (refine wp_region_held [] [0, 1, 2, 3, 4, 5, 6] [] (AfterCon (stAt t l n) t.length q) (by kernel_rfl) (by kernel_rfl) ?_; simp only [pickL]; with_reducible refine wpQuiet_nil ?_)
                (refine held_quiet [0, 1, 2, 3] [4, 5, 6] (by kernel_rfl) (by kernel_rfl) ?_; simp only [pickL, List.drop]; (repeat (go_big_quiet_step (fail))); with_reducible refine wpQuiet_nil ?_)
                (refine held_call 4 [5, 6] rfl (by kernel_rfl) 60 (#[.agg #[.slice ta t.length tc], .slice sa l.length sc, .int .i64 n]) (fun W => by kernel_rfl) rfl ?_ ?_ ?_)
                · exact fun W W' v e hh => ⟨fun k => let ⟨K, a, b⟩ := hh.1 k; ⟨K, a, b.ext e⟩, hh.2⟩
                · refine fun W hW _ => (haf.out W hW).mono ?_
                  rintro e W' ⟨K, rfl, _, hSt, hxx⟩
                  refine ⟨_, rfl, hxx, fun _ => ⟨K, rfl, ?_⟩, fun k => absurd k (by decide)⟩
                  have hsl := stAt_len t l n
                  have := hSt.read (by rw [hsl]; unfold maxLen; omega)
                  rw [hsl] at this
                  exact this
                rintro v ⟨Y, hY, hC⟩
                obtain ⟨K, rfl, hKK⟩ := hC.1 rfl
                clear hKK
                clear hC hY Y
                simp only [Act.put, List.setIfInBounds_toArray, List.set_cons_succ, List.set_cons_zero]
                (refine held_call 5 [6] rfl (by kernel_rfl) 64 (#[.agg #[.slice ta t.length tc], .slice (some ⟨K, 0, none⟩) t.length t.length]) (fun W => by kernel_rfl) rfl ?_ ?_ ?_)
                · exact fun W W' v e hh => ⟨fun k => let ⟨K, a, b⟩ := hh.1 k; ⟨K, a, b.ext e⟩, hh.2⟩
                · refine fun W hW hD => ?_
                  obtain ⟨K', eK, hI⟩ := ((hD 4 (dep_of 3 5 4 (by kernel_rfl))).2 rfl).1 rfl
                  cases eK
                  refine (rCalm_calls _ _ t (stAt t l n) W (hT.out.ext (hx.out.trans hW)) hI hv.out).mono ?_
                  rw [hq.out]
                  rintro e W' ⟨rfl, hxx⟩
                  exact ⟨_, rfl, hxx, fun k => absurd k (by decide), fun _ => rfl⟩
                rintro v ⟨Y, hY, hC⟩
                obtain rfl := hC.2 rfl
                clear hC hY Y
                simp only [Act.put, List.setIfInBounds_toArray, List.set_cons_succ, List.set_cons_zero]
                (refine held_quiet [6] [] (by kernel_rfl) (by kernel_rfl) ?_; simp only [pickL, List.drop]; (repeat (go_big_quiet_step (fail))); with_reducible refine wpQuiet_nil ?_)
                intro W hW hf ht Q0 hQ0
                have hx8 := Lib.hid (hx.out.trans hW)
                have hA8 : Hid (Blk W w.heap.size 27 #[.slice ta t.length tc]) := Lib.hid ((Keep.of_ext (X := fun _ => False) hW).blk hA.out id)
                clear hf ht hW z1 c0 haf hx hA
                simp only [pickL]
                refine hQ0 _ _ ?_
                clear hQ0
                cases q with
                | true =>
                  have R : Hid (∀ j, j < n + 1 → calmB t (stAt t l j) = true) := fun j hj => by
                    rcases Nat.lt_succ_iff_lt_or_eq.1 hj with h | rfl
                    · exact hG.out j h
                    · exact hq.out
                  clear hG hq
                  go_wp2
                  go_roundw
                  case rel => exact ⟨n + 1, by omega, by go_num, hx8, hA8, R⟩
                  case measure => simp [intOf]; omega
                | false =>
                  have R : Hid (checkS t pick l = 11) := by
                    show _ = _
                    rw [hck.out, hpl.out]
                    cases hcw : calmWay t (zeros t.length) l with
                    | false => rw [Bool.and_false]; rfl
                    | true =>
                      have := (calmWay_iff (calm_zeros t t.length) (by simp [zeros]) hok'.out).1 hcw n h2
                      have e2 : stAt t l n = afterS (zeros t.length) (l.take n) := rfl
                      rw [← e2, hq.out] at this
                      cases this
                  clear hG hq
                  go_wp2
                  go_ret
                  rw [R.out]
                  exact ⟨rfl, hx8.out⟩
              · have R : Hid (checkS t pick l = 0) := by
                  show _ = _
                  rw [hck.out, hpl.out, hmo.out, (calmWay_iff (calm_zeros t t.length) (by simp [zeros]) hok'.out).2 (fun j hj => hG.out j (by omega))]
                  rfl
                clear hG hck
                go_wp2
                go_ret
                rw [R.out]
                exact ⟨rfl, hx.out⟩
      · have hy0 : (y != 0) = true := by simp [h1]
        have R : Hid (checkS t pick l = y) := by show _ = _; unfold checkS; rw [if_pos hv.out, if_pos hq.out, hy.out, if_neg h1]
        clear hy h1 hq
        go_wp2
        go_ret
        rw [R.out]
        exact ⟨rfl, hE3.out⟩
  · have hz0 : (z != 0) = true := by simp [h0]
    have R : Hid (checkS t pick l = z) := by show _ = _; unfold checkS; rw [hz.out, if_neg h0]
    clear hz h0
    go_wp2
    go_ret
    rw [R.out]
    exact ⟨rfl, hE1.out⟩
end Go.Proofs.Ytkicielleiafgaa
