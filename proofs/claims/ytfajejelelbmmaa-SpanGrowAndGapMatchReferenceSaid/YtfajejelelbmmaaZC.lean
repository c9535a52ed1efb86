/- Walks of the reference of package span: Gap. -/
import Derived.Test.YtfajejelelbmmaaZA
import Derived.Test.YtfajejelelbmmaaZB
namespace Go.Proofs.Ytfajejelelbmmaa
open Go.RowKit

theorem gapRef_results {tmps : Array Value} {w : World} {g : Nat} {x y : Int} (hp : tmps.getD 6 undef = .pointer (some ⟨g, 0, none⟩)) (hb : Blk w g 25 #[.int .i64 x, .int .i64 y]) :
    (results Try.f19 tmps).run Try.prog w = .ok (.tuple #[.agg #[.int .i64 x, .int .i64 y], tmps.getD 7 undef]) w := by
  have hp' : tmps[6]?.getD undef = .pointer (some ⟨g, 0, none⟩) := by simpa using hp
  rw [results_cell_tmp Try.results19]
  simp [hp', asAddr, run_loadVar_row w g 25 25 #[.int .i64 x, .int .i64 y] (0, 0) _ hb Try.underlying25 rfl (by kernel_rfl), Result.andThen]
def BdCon (P : List Int) (B : Nat) (k : Nat) (v : Value) (W : World) : Prop := k = 1 → ∃ g c, v = .slice (some ⟨g, 0, none⟩) P.length c ∧ IntsO W B v P
set_option maxHeartbeats 6400000 in
set_option maxRecDepth 100000 in
theorem rGap_calls (va : Value) (l : List (Int × Int)) (n wf wt : Int) (w : World) (h : Spans w va l) (hl : l.length ≤ 60) :
    Calls Try.prog 19 #[va, .int .i64 n, .agg #[.int .i64 wf, .int .i64 wt]] w fun e w' => ∃ ok x y, e = .returned (.tuple #[.agg #[.int .i64 x, .int .i64 y], .bool ok]) ∧ GapOut l n wf wt ok x y ∧ Ext w w' := by
  have h' := Lib.hid h
  obtain ⟨la, lc, rfl⟩ := h.form
  clear h
  go_enter Try.func19, Try.ntmps19
  go_upto_region 1 with (fail)
  refine wp_abs (S := fun W => Hid (Ext w W) ∧ Hid (Blk W w.heap.size 25 #[.int .i64 wf, .int .i64 wt]) ∧ Hid (Blk W (w.heap.size + 1) 25 #[.int .i64 0, .int .i64 0])) ?_ ?_
  · exact ⟨Lib.hid (by exact (by repeat' (first | (with_reducible exact Ext.refl _) | (with_reducible assumption) | (with_reducible refine Ext.drewN ?_ _) | (with_reducible refine Ext.drew ?_) | (with_reducible refine Ext.alloc ?_ _) | (with_reducible refine Ext.trans ?_ (by with_reducible assumption))))), Lib.hid ((blk_new' rfl rfl).alloc _), Lib.hid (blk_new' (by simp only [World.size_alloc]) rfl)⟩
  rintro W0 ⟨hE, hB, hR⟩
  go_wp2_with fail
  refine (rInRange_calls _ l W0 (h'.out.ext hE.out)).mono ?_
  rintro e w1 ⟨rfl, hq⟩
  have c0 : W0.cell? ⟨w.heap.size, 0, none⟩ = some (.int .i64 wf) := hB.out.cell 0
  have c1 : W0.cell? ⟨w.heap.size, 1, none⟩ = some (.int .i64 wt) := hB.out.cell 1
  have k0 : W0.cell? ⟨w.heap.size + 1, 0, none⟩ = some (.int .i64 0) := hR.out.cell 0
  have k1 : W0.cell? ⟨w.heap.size + 1, 1, none⟩ = some (.int .i64 0) := hR.out.cell 1
  have m0 := hR.out.frozen 0
  have m1 := hR.out.frozen 1
  replace hE := Lib.hid (hE.out.trans hq)
  replace hB := Lib.hid (hB.out.below hq hB.out.lt)
  replace hR := Lib.hid (hR.out.below hq hR.out.lt)
  replace c0 := hq.cell c0
  replace c1 := hq.cell c1
  replace k0 := hq.cell k0
  replace k1 := hq.cell k1
  replace m0 := hR.out.frozen 0
  replace m1 := hR.out.frozen 1
  clear hq
  cases hra : rangedB l with
  | false =>
    have R : Hid (gapBad l n wf wt = true) := by show _ = _; simp [gapBad, hra]
    clear hra
    go_wp2
    (try simp only [Exit.inBlock, Exit.then])
    (try rw [Exit.noGoto_ret])
    refine bodyPost_ret (gapRef_results (x := 0) (y := 0) rfl (((hR.out.set_ 0 _).set_ 1 _))) rfl ?_
    exact ⟨false, 0, 0, rfl, Or.inl ⟨R.out, rfl, rfl, rfl⟩, ((hE.out.setCell (p := ⟨w.heap.size + 1, 0, none⟩) (Nat.le_succ _) _).setCell (p := ⟨w.heap.size + 1, 1, none⟩) (Nat.le_succ _) _)⟩
  | true =>
    by_cases n1 : n < 1
    · have R : Hid (gapBad l n wf wt = true) := by show _ = _; simp [gapBad, n1]
      have dn : decide (n < 1) = true := decide_eq_true n1
      clear hra
      go_wp2
      (try simp only [Exit.inBlock, Exit.then])
      (try rw [Exit.noGoto_ret])
      refine bodyPost_ret (gapRef_results (x := 0) (y := 0) rfl (((hR.out.set_ 0 _).set_ 1 _))) rfl ?_
      exact ⟨false, 0, 0, rfl, Or.inl ⟨R.out, rfl, rfl, rfl⟩, ((hE.out.setCell (p := ⟨w.heap.size + 1, 0, none⟩) (Nat.le_succ _) _).setCell (p := ⟨w.heap.size + 1, 1, none⟩) (Nat.le_succ _) _)⟩
    have dn : decide (n < 1) = false := decide_eq_false n1
    go_wp2_with fail
    refine (rFar_calls wf w1).mono ?_
    rintro e w2 ⟨rfl, hq⟩
    replace hE := Lib.hid (hE.out.trans hq)
    replace hB := Lib.hid (hB.out.below hq hB.out.lt)
    replace hR := Lib.hid (hR.out.below hq hR.out.lt)
    replace c0 := hq.cell c0
    replace c1 := hq.cell c1
    replace k0 := hq.cell k0
    replace k1 := hq.cell k1
    replace m0 := hR.out.frozen 0
    replace m1 := hR.out.frozen 1
    clear hq
    cases hfa : farB wf with
    | true =>
      have R : Hid (gapBad l n wf wt = true) := by show _ = _; simp [gapBad, hfa]
      clear hra hfa
      go_wp2
      (try simp only [Exit.inBlock, Exit.then])
      (try rw [Exit.noGoto_ret])
      refine bodyPost_ret (gapRef_results (x := 0) (y := 0) rfl (((hR.out.set_ 0 _).set_ 1 _))) rfl ?_
      exact ⟨false, 0, 0, rfl, Or.inl ⟨R.out, rfl, rfl, rfl⟩, ((hE.out.setCell (p := ⟨w.heap.size + 1, 0, none⟩) (Nat.le_succ _) _).setCell (p := ⟨w.heap.size + 1, 1, none⟩) (Nat.le_succ _) _)⟩
    | false =>
      go_wp2_with fail
      refine (rFar_calls wt w2).mono ?_
      rintro e w3 ⟨rfl, hq⟩
      replace hE := Lib.hid (hE.out.trans hq)
      replace hB := Lib.hid (hB.out.below hq hB.out.lt)
      replace hR := Lib.hid (hR.out.below hq hR.out.lt)
      replace c0 := hq.cell c0
      replace c1 := hq.cell c1
      replace k0 := hq.cell k0
      replace k1 := hq.cell k1
      replace m0 := hR.out.frozen 0
      replace m1 := hR.out.frozen 1
      clear hq
      cases hfb : farB wt with
      | true =>
        have R : Hid (gapBad l n wf wt = true) := by show _ = _; simp [gapBad, hfb]
        clear hra hfa hfb
        go_wp2
        (try simp only [Exit.inBlock, Exit.then])
        (try rw [Exit.noGoto_ret])
        refine bodyPost_ret (gapRef_results (x := 0) (y := 0) rfl (((hR.out.set_ 0 _).set_ 1 _))) rfl ?_
        exact ⟨false, 0, 0, rfl, Or.inl ⟨R.out, rfl, rfl, rfl⟩, ((hE.out.setCell (p := ⟨w.heap.size + 1, 0, none⟩) (Nat.le_succ _) _).setCell (p := ⟨w.heap.size + 1, 1, none⟩) (Nat.le_succ _) _)⟩
      | false =>
        have R : Hid (gapBad l n wf wt = false) := by show _ = _; simp [gapBad, hra, hfa, hfb]; omega
        obtain ⟨wf0, wf1⟩ := far_false hfa
        obtain ⟨wt0, wt1⟩ := far_false hfb
        have hrg : Hid (rangedB l = true) := hra
        clear hra hfa hfb
        by_cases n2 : wt - wf < n
        · have d2 : decide (wt - wf < n) = true := decide_eq_true n2
          have hIs : Hid (GapIs (combL 0 l []) n wf wt false 0 0) := Lib.hid (gapRef_short n2)
          go_wp2
          (try simp only [Exit.inBlock, Exit.then])
          (try rw [Exit.noGoto_ret])
          refine bodyPost_ret (gapRef_results (x := 0) (y := 0) rfl (((hR.out.set_ 0 _).set_ 1 _))) rfl ?_
          exact ⟨false, 0, 0, rfl, Or.inr ⟨R.out, hIs.out⟩, ((hE.out.setCell (p := ⟨w.heap.size + 1, 0, none⟩) (Nat.le_succ _) _).setCell (p := ⟨w.heap.size + 1, 1, none⟩) (Nat.le_succ _) _)⟩
        have d2 : decide (wt - wf < n) = false := decide_eq_false n2
        obtain ⟨P0, hP0⟩ : ∃ P0, Hid (insAll (l ++ []) = P0) := ⟨_, Lib.hid rfl⟩
        obtain ⟨P, hP⟩ : ∃ P, Hid (insL P0 wf = P) := ⟨_, Lib.hid rfl⟩
        have hPP : Hid (ptsL l wf = P) := by show _ = _; unfold ptsL; rw [hP0.out, hP.out]
        have hPl : P.length ≤ 121 := by have := pts_len l wf; rw [hPP.out] at this; omega
        have hP0l : P0.length < 100000 := by have := insAll_len (l ++ []); rw [hP0.out] at this; simp at this; omega
        have prng : Hid (∀ z ∈ P, -2251799813685248 ≤ z ∧ z ≤ 2251799813685248) := Lib.hid fun z hz => pts_ranged hrg.out wf0 wf1 (by rw [hPP.out]; exact hz)
        go_wp2_with fail
        have y0 := After.cell c0
        (refine wp_region_held [2] [0, 1, 3] [4, 5] (BdCon P0 w3.heap.size) (by kernel_rfl) (by kernel_rfl) ?_; simp only [pickL, List.drop]; (repeat (go_big_quiet_step (fail))); with_reducible refine wpQuiet_nil ?_)
        (refine held_quiet [0] [1, 3] (by kernel_rfl) (by kernel_rfl) ?_; simp only [pickL, List.drop]; (repeat (go_big_quiet_step (fail))); with_reducible refine wpQuiet_nil ?_)
        (refine held_call 1 [3] rfl (by kernel_rfl) 39 (#[.slice la l.length lc, .slice none 0 0]) (fun W => by kernel_rfl) rfl ?_ ?_ ?_)
        · exact fun W W' v e h hk => let ⟨g, c, a, b⟩ := h hk; ⟨g, c, a, b.ext e⟩
        · refine fun W hW _ => (rBounds_calls _ _ l [] W (h'.out.ext (hE.out.trans hW)) (spans_nil W) (by omega) (by simp)).mono ?_
          rintro e W' ⟨g, c, he, hI, hx⟩
          rw [hP0.out] at he hI
          exact ⟨_, he, hx, fun _ => ⟨g, c, rfl, hI.base hW.size⟩⟩
        rintro v ⟨Y, hY, hC⟩
        obtain ⟨g, c, rfl, hI⟩ := hC rfl
        clear hC hI hY Y
        simp only [Act.put, List.setIfInBounds_toArray, List.set_cons_succ, List.set_cons_zero]
        (refine held_quiet [3] [] (by kernel_rfl) (by kernel_rfl) ?_; simp only [pickL, List.drop]; (repeat (go_big_quiet_step (fail))); with_reducible refine wpQuiet_nil ?_)
        intro W hW hf ht Q0 hQ0
        obtain ⟨g2, c2, e2, hI2⟩ := (hf 1).2 rfl rfl
        cases e2
        simp only [pickL, List.drop]
        clear hf ht y0
        have hI2' := Lib.hid hI2
        have hW' := Lib.hid hW
        clear hI2 hW
        go_wp2_with fail
        refine (rInsert_calls w3.heap.size g c P0 wf W hI2'.out hW'.out.size hP0l).mono ?_
        rintro e w5 ⟨g', c', he, hI5, hK5, _⟩
        rw [hP.out] at he hI5
        subst he
        have hq : Ext w3 w5 := Ext.keepInts hW'.out hI2'.out hK5
        replace hE := Lib.hid (hE.out.trans hq)
        replace hB := Lib.hid (hB.out.below hq hB.out.lt)
        replace hR := Lib.hid (hR.out.below hq hR.out.lt)
        replace c0 := hq.cell c0
        replace c1 := hq.cell c1
        replace k0 := hq.cell k0
        replace k1 := hq.cell k1
        replace m0 := hR.out.frozen 0
        replace m1 := hR.out.frozen 1
        clear hq
        obtain ⟨_, _, e0, hpn, hpc, pat⟩ := hI5.read.open
        cases e0
        have pat' := Lib.hid pat
        clear hI5 hK5 pat hI2' hW' hP hP0l
        go_wp2_with fail
        go_loopw [10] (fun vi wr => ∃ i : Nat, i ≤ P.length ∧ vi = .int .i64 i ∧ Hid (Ext w5 wr) ∧ Hid (TriedTo l P n wf wt i)) (fun vi _ => P.length - (intOf vi).toNat)
        case atStart => exact ⟨0, by omega, rfl, Lib.hid (Ext.refl _), Lib.hid (fun j t hj => absurd hj (by omega))⟩
        case round =>
          obtain ⟨i, hi, rfl, hx, hT⟩ := hrel
          by_cases h1 : i < P.length
          · obtain ⟨b1, o1, x, e1, hb1, _, ex, gx⟩ := pat'.out i h1 wr hx.out
            cases e1
            rw [Nat.zero_add] at gx
            obtain ⟨x0, x1⟩ := prng.out x (List.mem_of_getElem? ex.out)
            have n3 : n ≤ 4503599627370496 := by omega
            have y0 := After.cell gx
            go_wp2_with fail
            (refine wp_region_held [] [0, 1, 2, 3, 4, 5, 6, 7, 8, 9, 10, 11] [12] (fun _ _ _ => True) (by kernel_rfl) (by kernel_rfl) ?_; simp only [pickL]; with_reducible refine wpQuiet_nil ?_)
            (refine held_quiet [0, 1, 2, 3, 4, 5, 6, 7, 8, 9, 10] [11] (by kernel_rfl) (by kernel_rfl) ?_; simp only [pickL, List.drop]; (repeat (go_big_quiet_step (fail))); with_reducible refine wpQuiet_nil ?_)
            (refine held_made 11 [] rfl (by kernel_rfl) (fun g => .pointer (some ⟨g, 0, none⟩)) (.cells #[.int .i64 0, .int .i64 0] 25) (fun W => by kernel_rfl) (fun g g2 e => by cases e; rfl) (fun g => rfl) ?_)
            intro gs
            simp only [Act.put, List.setIfInBounds_toArray, List.set_cons_succ, List.set_cons_zero]
            intro W4 hW hf ht Q0 hQ0
            have h10 := (hf 11).2 rfl
            have b10 : Hid (Blk W4 gs 25 #[.int .i64 0, .int .i64 0]) := Lib.hid h10.1
            have hgs : wr.heap.size ≤ gs := h10.2
            simp only [pickL, List.drop]
            have s0 : W4.cell? ⟨gs, 0, none⟩ = some (.int .i64 0) := b10.out.cell 0
            have s1 : W4.cell? ⟨gs, 1, none⟩ = some (.int .i64 0) := b10.out.cell 1
            have t0 := b10.out.frozen 0
            have t1 := b10.out.frozen 1
            have hW' := Lib.hid hW
            clear hf ht h10 y0 gx hW
            go_upto_region 9 with (fail)
            refine wp_abs (S := fun W => Hid (Ext wr W) ∧ Hid (Blk W gs 25 #[.int .i64 x, .int .i64 (x + n)])) ?_ ?_
            · exact ⟨Lib.hid ((hW'.out.setCell (p := ⟨gs, 0, none⟩) hgs _).setCell (p := ⟨gs, 1, none⟩) hgs _), Lib.hid ((b10.out.set_ 0 _).set_ 1 _)⟩
            rintro W6 ⟨hx6, hG⟩
            clear s0 s1 t0 t1 b10 hW' W4
            have g0 : W6.cell? ⟨gs, 0, none⟩ = some (.int .i64 x) := hG.out.cell 0
            have g1 : W6.cell? ⟨gs, 1, none⟩ = some (.int .i64 (x + n)) := hG.out.cell 1
            have hxw := Lib.hid (hx.out.trans hx6.out)
            have cc0 := hxw.out.cell c0
            have cc1 := hxw.out.cell c1
            clear m0 m1 k0 k1
            by_cases q1 : x < wf
            · have e1 : decide (x < wf) = true := decide_eq_true q1
              have hT2 : Hid (TriedTo l P n wf wt (i + 1)) := Lib.hid (hT.out.step ex.out fun h => by omega)
              clear hT ex
              go_wp2
              go_roundw
              case rel => first | exact ⟨i + 1, by omega, by go_num, hxw, hT2⟩ | ((repeat apply Exists.intro); exact ⟨⟨i + 1, by omega, by go_num, hxw, hT2⟩, rfl⟩)
              case measure => simp [intOf]; omega
            have e1 : decide (x < wf) = false := decide_eq_false q1
            by_cases q2 : wt < x + n
            · have e2 : decide (wt < x + n) = true := decide_eq_true q2
              have hT2 : Hid (TriedTo l P n wf wt (i + 1)) := Lib.hid (hT.out.step ex.out fun _ h => by omega)
              clear hT ex
              go_wp2
              go_roundw
              case rel => first | exact ⟨i + 1, by omega, by go_num, hxw, hT2⟩ | ((repeat apply Exists.intro); exact ⟨⟨i + 1, by omega, by go_num, hxw, hT2⟩, rfl⟩)
              case measure => simp [intOf]; omega
            have e2 : decide (wt < x + n) = false := decide_eq_false q2
            obtain ⟨r1, hr1⟩ : ∃ r1, Hid (combL 1 l [(x, x + n)] = r1) := ⟨_, Lib.hid rfl⟩
            have hM := Lib.hid (mtL_comb (l := l) (n := n) (t := x))
            rw [hr1.out] at hM
            go_wp2_with fail
            refine (rCombine_calls 1 _ _ l [(x, x + n)] _ (h'.out.ext ((hE.out.trans hxw.out).alloc _)) (lit_spans W6 [(x, x + n)] (by simp)) (by omega) (by simp)).mono ?_
            rintro e w7 ⟨v, rfl, hv, hq0⟩
            rw [hr1.out] at hv
            obtain ⟨mA, mC, rfl⟩ := hv.read.form
            have hq : Ext W6 w7 := ((Ext.refl W6).alloc _).trans hq0
            have hx7 := Lib.hid (hxw.out.trans hq)
            have hG7 := Lib.hid (hG.out.below hq hG.out.lt)
            have hR7 := Lib.hid (hR.out.below hx7.out hR.out.lt)
            have hE7 := Lib.hid (hE.out.trans hx7.out)
            clear hv hq0 hq hxw hG hr1 hx6 hx cc0 cc1 g0 g1
            obtain ⟨k, hk⟩ : ∃ k, Hid (r1.length = k) := ⟨_, Lib.hid rfl⟩
            rw [hk.out] at hM ⊢
            clear hk
            by_cases hk0 : k = 0
            · subst hk0
              have hno : ¬ MtL l n x := fun h => by have := hM.out.2 h; simp at this
              have hIs : Hid (GapIs (combL 0 l []) n wf wt true x (x + n)) := Lib.hid (gapRef_yes (by rw [hPP.out]; exact hT.out) (by rw [hPP.out]; exact ex.out) n1 (by omega) (by omega) hno)
              have k0 : w7.cell? ⟨w.heap.size + 1, 0, none⟩ = some (.int .i64 0) := hR7.out.cell 0
              have k1 : w7.cell? ⟨w.heap.size + 1, 1, none⟩ = some (.int .i64 0) := hR7.out.cell 1
              have m0 := hR7.out.frozen 0
              have m1 := hR7.out.frozen 1
              have g0 : w7.cell? ⟨gs, 0, none⟩ = some (.int .i64 x) := hG7.out.cell 0
              have g1 : w7.cell? ⟨gs, 1, none⟩ = some (.int .i64 (x + n)) := hG7.out.cell 1
              clear hM hT ex hno
              go_wp2
              (try simp only [Exit.inBlock, Exit.then])
              (try rw [Exit.noGoto_ret])
              refine bodyPost_ret (gapRef_results (x := x) (y := x + n) rfl ((hR7.out.set_ 0 _).set_ 1 _)) rfl ?_
              exact ⟨true, x, x + n, rfl, Or.inr ⟨R.out, hIs.out⟩, ((hE7.out.setCell (p := ⟨w.heap.size + 1, 0, none⟩) (Nat.le_succ _) _).setCell (p := ⟨w.heap.size + 1, 1, none⟩) (Nat.le_succ _) _)⟩
            · have d8 : decide ((k : Int) = 0) = false := decide_eq_false (by omega)
              have hT2 : Hid (TriedTo l P n wf wt (i + 1)) := Lib.hid (hT.out.step ex.out fun _ _ => hM.out.1 (decide_eq_true (by omega)))
              clear hT ex hM
              go_wp2
              go_roundw
              case rel => first | exact ⟨i + 1, by omega, by go_num, hx7, hT2⟩ | ((repeat apply Exists.intro); exact ⟨⟨i + 1, by omega, by go_num, hx7, hT2⟩, rfl⟩)
              case measure => simp [intOf]; omega
          · obtain rfl : i = P.length := by omega
            have hIs : Hid (GapIs (combL 0 l []) n wf wt false 0 0) := Lib.hid (gapRef_no (by rw [hPP.out]; exact hT.out) n1)
            have hR7 := Lib.hid (hR.out.below hx.out hR.out.lt)
            have hE7 := Lib.hid (hE.out.trans hx.out)
            replace k0 := hx.out.cell k0
            replace k1 := hx.out.cell k1
            replace m0 := hR7.out.frozen 0
            replace m1 := hR7.out.frozen 1
            clear hT hE hR hx
            go_wp2
            (try simp only [Exit.inBlock, Exit.then])
            (try rw [Exit.noGoto_ret])
            refine bodyPost_ret (gapRef_results (x := 0) (y := 0) rfl ((hR7.out.set_ 0 _).set_ 1 _)) rfl ?_
            exact ⟨false, 0, 0, rfl, Or.inr ⟨R.out, hIs.out⟩, ((hE7.out.setCell (p := ⟨w.heap.size + 1, 0, none⟩) (Nat.le_succ _) _).setCell (p := ⟨w.heap.size + 1, 1, none⟩) (Nat.le_succ _) _)⟩
end Go.Proofs.Ytfajejelelbmmaa
