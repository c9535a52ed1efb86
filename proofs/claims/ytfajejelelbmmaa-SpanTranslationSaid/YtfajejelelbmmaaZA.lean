/- Walks of the reference of package span: Grow. -/
import Derived.Test.YtfajejelelbmmaaYJ
namespace Go.Proofs.Ytfajejelelbmmaa
open Go.RowKit

def GrowRefOut (l : List (Int × Int)) (b a : Int) (w : World) (e : Ending) (w' : World) : Prop :=
  ∃ v, e = .returned (.tuple #[v, .int .i64 (growT l b a).2]) ∧ Spans w' v (growT l b a).1 ∧ Ext w w'
theorem growRef_end {l : List (Int × Int)} {b a : Int} {w w' : World} {v : Value} {r1 : List (Int × Int)} {r2 : Int} (hr : growT l b a = (r1, r2)) (hv : Spans w' v r1) (hx : Ext w w') : GrowRefOut l b a w (.returned (.tuple #[v, .int .i64 r2])) w' :=
  ⟨v, by rw [hr], by rw [hr]; exact hv, hx⟩
set_option maxHeartbeats 6400000 in
set_option maxRecDepth 100000 in
theorem rGrow_calls (va : Value) (l : List (Int × Int)) (b a : Int) (w : World) (h : Spans w va l) (hl : l.length ≤ 60) :
    Calls Try.prog 17 #[va, .int .i64 b, .int .i64 a] w (GrowRefOut l b a w) := by
  have h' := Lib.hid h
  obtain ⟨j0, hj0, jz0, jz1, jz2⟩ := info_parts span_info
  obtain ⟨la, lc, rfl, hn, hc, hat⟩ := h.open
  have hat' := Lib.hid hat
  clear h hat
  go_enter Try.func17, Try.ntmps17
  go_wp2_with fail
  refine (rInRange_calls (.slice la l.length lc) l w h'.out).mono ?_
  rintro e w1 ⟨rfl, hx1⟩
  have hx1' := Lib.hid hx1
  clear hx1
  cases hr : rangedB l with
  | false =>
    have R : Hid (growT l b a = ([], 1)) := by show _ = _; simp [growT, hr]
    clear hr
    clear hat'
    go_wp2
    go_ret2
    exact growRef_end R.out (spans_nil _) hx1'.out
  | true =>
    by_cases b0 : b < 0
    · have R : Hid (growT l b a = ([], 1)) := by show _ = _; simp [growT, minsB, b0]
      have d0 : decide (b < 0) = true := decide_eq_true b0
      clear hr
      clear hat'
      go_wp2
      go_ret2
      exact growRef_end R.out (spans_nil _) hx1'.out
    have d0 : decide (b < 0) = false := decide_eq_false b0
    by_cases b1 : 2251799813685248 < b
    · have R : Hid (growT l b a = ([], 1)) := by show _ = _; simp [growT, minsB, b1]
      have d1 : decide (2251799813685248 < b) = true := decide_eq_true b1
      clear hr
      clear hat'
      go_wp2
      go_ret2
      exact growRef_end R.out (spans_nil _) hx1'.out
    have d1 : decide (2251799813685248 < b) = false := decide_eq_false b1
    by_cases a0 : a < 0
    · have R : Hid (growT l b a = ([], 1)) := by show _ = _; simp [growT, minsB, a0]
      have e0 : decide (a < 0) = true := decide_eq_true a0
      clear hr
      clear hat'
      go_wp2
      go_ret2
      exact growRef_end R.out (spans_nil _) hx1'.out
    have e0 : decide (a < 0) = false := decide_eq_false a0
    by_cases a1 : 2251799813685248 < a
    · have R : Hid (growT l b a = ([], 1)) := by show _ = _; simp [growT, minsB, a1]
      have e1 : decide (2251799813685248 < a) = true := decide_eq_true a1
      clear hr
      clear hat'
      go_wp2
      go_ret2
      exact growRef_end R.out (spans_nil _) hx1'.out
    have e1 : decide (2251799813685248 < a) = false := decide_eq_false a1
    have R0 : Hid (growT l b a = if !rangedB (growM l b a) then ([], 2) else (combL 0 (growM l b a) [], 0)) := by show _ = _; simp [growT, minsB, b0, b1, a0, a1, hr]
    have hrg : Hid (rangedB l = true) := hr
    clear hr
    have lw1 := hx1'.out.size
    go_wp2_with fail
    go_loopw [9, 10] (fun vo vi wr => ∃ (i n : Nat) (acc : List (Int × Int)) (A : Option Addr) (C : Nat), i ≤ l.length ∧ vi = .int .i64 i ∧ vo = .slice A n C ∧ n ≤ i ∧ Hid (n = acc.length) ∧ Hid (acc = growM (l.take i) b a) ∧ Hid (Ext w wr) ∧ Hid (wr.ownsRow w.heap.size 25 2 (.slice A n C) n (spanCells acc))) (fun _ vi _ => l.length - (intOf vi).toNat)
    case atStart => exact ⟨0, 0, [], _, 0, by omega, rfl, rfl, by omega, rfl, rfl, Lib.hid (hx1'.out.alloc _), Lib.hid (World.ownsRow_lit (e := 25) (size := 2) w1 #[] 0 lw1 (by unfold maxLen; omega) rfl)⟩
    case round =>
      clear hx1' lw1
      obtain ⟨i, n, acc, A, C, hi, rfl, rfl, hni, hnl, hA, hx, hO⟩ := hrel
      by_cases h1 : i < l.length
      · obtain ⟨b1', o1, x, y, rfl, hb1, _, ex, g1, g2⟩ := hat'.out i h1 wr hx.out
        obtain ⟨⟨rx0, rx1⟩, ry0, ry1⟩ := ranged_at hrg.out (List.mem_of_getElem? ex.out)
        have hst := Lib.hid (growM_take (b := b) (a := a) ex.out)
        have z1 := After.cell g1
        have z2 := After.cell g2
        clear ex
        by_cases hxy : x < y
        · have hd : decide (x < y) = true := decide_eq_true hxy
          have hN : Hid (acc ++ [(x - b, y + a)] = growM (l.take (i + 1)) b a) := by show _ = _; rw [hst.out, if_pos hxy, hA.out]
          clear hst hA hxy
          go_wp2_with fail
          refine wp_region_after (by kernel_rfl) (by kernel_rfl) ?_
          repeat (go_big_quiet_step (fail))
          refine wpQuiet_nil ?_
          rintro Y ⟨yy, ey⟩
          have hy : Ext wr Y := by rw [ey]; exact yy.ext
          have hxY := Lib.hid (hx.out.trans hy)
          have hOY := Lib.hid (owns_ext hO.out hy)
          have q1 := hy.cell g1
          have q2 := hy.cell g2
          have lw := hxY.out.size
          clear z1 z2 g1 g2 hx hO ey hy yy
          go_wp2_with fail
          have y0 := After.cell q1
          have y1 := After.cell q2
          (refine wp_region_held [] [0, 1, 2, 3, 4, 5, 6, 7, 8, 9, 10, 11, 12, 13, 14, 15, 16] [17, 18] (fun _ _ _ => True) (by kernel_rfl) (by kernel_rfl) ?_; simp only [pickL]; with_reducible refine wpQuiet_nil ?_)
          (refine held_quiet [0, 1, 2, 3, 4, 5, 6, 7, 8, 9, 10, 11, 12, 13, 14, 15] [16] (by kernel_rfl) (by kernel_rfl) ?_; simp only [pickL, List.drop]; (repeat (go_big_quiet_step (fail))); with_reducible refine wpQuiet_nil ?_)
          (refine held_made 16 [] rfl (by kernel_rfl) (fun g => .slice (some ⟨g, 0, none⟩) 1 1) (.cells #[.int .i64 (x - b), .int .i64 (y + a)] 25) (fun W => by kernel_rfl) (fun g g2 e => by cases e; rfl) (fun g => rfl) ?_)
          intro gs
          simp only [Act.put, List.setIfInBounds_toArray, List.set_cons_succ, List.set_cons_zero]
          intro W hW hf ht Q0 hQ0
          have h10 := (hf 16).2 rfl
          have b10 : Hid (Blk W gs 25 #[.int .i64 (x - b), .int .i64 (y + a)]) := Lib.hid h10.1
          have hgs : Y.heap.size ≤ gs := h10.2
          have hgl : gs < W.heap.size := b10.out.lt
          have hW' := Lib.hid hW
          have hlwW := hW.size
          simp only [pickL, List.drop]
          clear hf ht h10 y0 y1 q1 q2 hW
          go_wp2_with (at_builtin; refine wpList_append_any _ rfl (.tmp 49) (.tmp 65) _ rfl w.heap.size 25 j0 _ 2 16 Try.underlying22 hj0 jz0 jz1 jz2 rfl (by decide) (.slice A n C) n (spanCells acc) rfl (owns_ext hOY.out hW'.out) (gs + 1) (some ⟨gs, 0, none⟩) 1 1 [.int .i64 (x - b), .int .i64 (y + a)] rfl (reads_blk b10.out rfl) (two_int _ _) (by unfold maxLen; omega) (by omega) (by omega) ?_; intro v5 w5 hown5 hg5 hat5; obtain ⟨A5, C5, rfl⟩ := owns_form hown5; have hO5 : Hid (w5.ownsRow w.heap.size 25 2 (.slice A5 (n + 1) C5) (n + 1) (spanCells (acc ++ [(x - b, y + a)]))) := Lib.hid (by rw [spanCells_app]; exact hown5); have hx5 := Lib.hid ((hxY.out.trans hW'.out).grown hg5 (fun k e => ((owns_ext hOY.out hW'.out).lt k e).1)); have hn5 : Hid (n + 1 = (acc ++ [(x - b, y + a)]).length) := (by show _ = _; rw [List.length_append, ← hnl.out]; rfl); clear hown5 hg5 hat5)
          go_roundw
          case rel => exact ⟨i + 1, n + 1, _, A5, C5, by omega, by go_num, rfl, by omega, hn5, hN, hx5, hO5⟩
          case measure => simp [intOf]; omega
        · have hd : decide (x < y) = false := decide_eq_false hxy
          have hN : Hid (acc = growM (l.take (i + 1)) b a) := by show _ = _; rw [hst.out, if_neg hxy, List.append_nil, hA.out]
          clear hst hA hxy
          go_wp2_with fail
          refine wp_region_after (by kernel_rfl) (by kernel_rfl) ?_
          repeat (go_big_quiet_step (fail))
          refine wpQuiet_nil ?_
          rintro Y ⟨yy, ey⟩
          have hy : Ext wr Y := by rw [ey]; exact yy.ext
          have hxY := Lib.hid (hx.out.trans hy)
          have hOY := Lib.hid (owns_ext hO.out hy)
          have q1 := hy.cell g1
          have q2 := hy.cell g2
          have lw := hxY.out.size
          clear z1 z2 g1 g2 hx hO ey hy yy
          go_wp2
          go_roundw
          case rel => exact ⟨i + 1, n, acc, A, C, by omega, by go_num, rfl, by omega, hnl, hN, hxY, hOY⟩
          case measure => simp [intOf]; omega
      · have hG : Hid (acc = growM l b a) := by show _ = _; rw [hA.out, List.take_of_length_le (by omega)]
        have hR : Hid (Spans wr (.slice A n C) acc) := by
          have : SpansO wr w.heap.size (.slice A n C) acc := by unfold SpansO; rw [← hnl.out]; exact hO.out
          exact this.read
        have hac : acc.length ≤ 60 := by rw [← hnl.out]; omega
        rw [← hG.out] at R0
        clear hA hG hO
        go_wp2_with fail
        refine (rInRange_calls _ acc wr hR.out).mono ?_
        rintro e w3 ⟨rfl, hx3⟩
        have hx3' := Lib.hid (hx.out.trans hx3)
        have hR3 := Lib.hid (hR.out.ext hx3)
        clear hx3
        cases hr2 : rangedB acc with
        | false =>
          have R : Hid (growT l b a = ([], 2)) := by show _ = _; rw [R0.out, hr2]; rfl
          clear hr2 R0
          go_wp2
          go_ret2
          exact growRef_end R.out (spans_nil _) hx3'.out
        | true =>
          have R : Hid (growT l b a = (combL 0 acc [], 0)) := by show _ = _; rw [R0.out, hr2]; rfl
          clear hr2 R0
          go_wp2_with fail
          refine (rCombine_calls 0 _ _ acc [] w3 hR3.out (spans_nil w3) (by omega) (by simp)).mono ?_
          rintro e w4 ⟨v, rfl, hv4, hx4⟩
          have hv4' := Lib.hid hv4.read
          have hx4' := Lib.hid (hx3'.out.trans hx4)
          clear hv4 hx4
          go_wp2
          go_ret2
          exact growRef_end R.out hv4'.out hx4'.out
end Go.Proofs.Ytfajejelelbmmaa
