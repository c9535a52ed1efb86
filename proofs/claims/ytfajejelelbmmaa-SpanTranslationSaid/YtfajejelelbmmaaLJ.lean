/- The law SpanTranslation, walked: true for every two lists of pairs and every number of 32 bits. -/
import Derived.Test.YtfajejelelbmmaaZE
namespace Go.Proofs.Ytfajejelelbmmaa
open Go.RowKit

set_option maxHeartbeats 40000000 in
set_option maxRecDepth 100000 in
theorem spanTranslation_calls (va : Value) (a : List (Int × Int)) (vb : Value) (b : List (Int × Int)) (by_ : Int) (by0 : -2147483648 ≤ by_) (by1 : by_ ≤ 2147483647) (w : World) (ha : Pairs w va a) (hb : Pairs w vb b) :
    Calls Try.prog 7 #[va, vb, .int .i32 by_] w fun e w' => e = .returned (.bool true) ∧ Ext w w' := by
  obtain ⟨j0, hj0, jz0, jz1, jz2⟩ := info_parts span_info
  have ha' := Lib.hid ha
  have hb' := Lib.hid hb
  obtain ⟨aA, aC, rfl, han, hac, hata⟩ := ha.open
  obtain ⟨bA, bC, rfl, hbn, hbc, hatb⟩ := hb.open
  have hata' := Lib.hid hata
  have hatb' := Lib.hid hatb
  clear ha hb hata hatb
  go_enter Try.func7, Try.ntmps7
  go_wp2_with fail
  refine (sanity12_calls w).mono ?_
  rintro e w1 ⟨rfl, hx0⟩
  have hE := Lib.hid hx0
  clear hx0
  go_upto_region 3 with (fail)
  refine wp_abs (S := fun W => Hid (Ext w1 W) ∧ Hid (Four w1.heap.size W w1.heap.size 0 0 [] (w1.heap.size + 1 + 1) 0 0 [] (w1.heap.size + 1) 0 0 [] (w1.heap.size + 1 + 1 + 1) 0 0 [])) ?_ ?_
  · refine ⟨Lib.hid (by exact (by repeat' (first | (with_reducible exact Ext.refl _) | (with_reducible assumption) | (with_reducible refine Ext.drewN ?_ _) | (with_reducible refine Ext.drew ?_) | (with_reducible refine Ext.alloc ?_ _) | (with_reducible refine Ext.trans ?_ (by with_reducible assumption))))), Lib.hid ⟨Row.empty (((((Blk.new w1 _ _).alloc _).alloc _).alloc _)) (Nat.le_refl _), Row.empty ((blk_new' (by simp only [World.size_alloc]) rfl).alloc _) (by omega), Row.empty (((blk_new' (by simp only [World.size_alloc]) rfl).alloc _).alloc _) (by omega), Row.empty (blk_new' (by simp only [World.size_alloc]) rfl) (by omega), by omega, by omega, by omega, by omega, by omega, by omega⟩⟩
  rintro W2 ⟨hx, hF⟩
  go_wp2_with fail
  go_loopw [8, 10, 12] (fun va vb vi wr => ∃ iL gL cL gR cR : Nat, iL ≤ a.length ∧ iL ≤ 30 ∧ vi = .int .i64 iL ∧ va = .slice (some ⟨gL, 0, none⟩) iL cL ∧ vb = .slice (some ⟨gR, 0, none⟩) iL cR ∧ Hid (Ext w1 wr) ∧ Hid (Four w1.heap.size wr gL iL cL (a.take iL) gR iL cR (moveL (a.take iL) by_) (w1.heap.size + 1) 0 0 [] (w1.heap.size + 1 + 1 + 1) 0 0 [])) (fun _ _ vi _ => a.length - (intOf vi).toNat)
  case atStart => exact ⟨0, _, 0, _, 0, by omega, by omega, rfl, rfl, rfl, hx, hF⟩
  clear hx hF
  case round =>
    obtain ⟨i, g, c, g', c', hi, hi30, rfl, rfl, rfl, hx, hF⟩ := hrel
    by_cases h1 : i < a.length
    · by_cases h2 : i < 30
      · have d1 : decide ((i : Int) < (a.length : Int)) = true := by simp; omega
        have d2 : decide ((i : Int) < 30) = true := by simp; omega
        obtain ⟨b1, o1, x, y, rfl, ex, hp, p0, p1⟩ := hata'.out i h1 wr (hE.out.trans hx.out)
        obtain ⟨⟨px0, px1⟩, py0, py1⟩ := hp
        dsimp only at px0 px1 py0 py1
        go_wp2_with fail
        have z1 := After.cell p0
        have z2 := After.cell p1
        (refine wp_region_held [] [0, 1, 2, 3, 4, 5, 6, 7, 8, 9, 10, 11, 12, 13, 14] [15, 16] (fun _ _ _ => True) (by kernel_rfl) (by kernel_rfl) ?_; simp only [pickL]; with_reducible refine wpQuiet_nil ?_)
        (refine held_quiet [0, 1, 2, 3, 4, 5, 6, 7, 8, 9, 10, 11, 12, 13] [14] (by kernel_rfl) (by kernel_rfl) ?_; simp only [pickL, List.drop]; (repeat (go_big_quiet_step (fail))); with_reducible refine wpQuiet_nil ?_)
        (refine held_made 14 [] rfl (by kernel_rfl) (fun g => .slice (some ⟨g, 0, none⟩) 1 1) (.cells #[.int .i64 (x), .int .i64 (y)] 25) (fun W => by kernel_rfl) (fun g g2 e => by cases e; rfl) (fun g => rfl) ?_)
        intro gs
        simp only [Act.put, List.setIfInBounds_toArray, List.set_cons_succ, List.set_cons_zero]
        intro W hW hf ht Q0 hQ0
        have h10 := (hf 14).2 rfl
        have b10 : Hid (Blk W gs 25 #[.int .i64 (x), .int .i64 (y)]) := Lib.hid h10.1
        have hgl : gs < W.heap.size := b10.out.lt
        have hW' := Lib.hid hW
        have hlwW := hW.size
        simp only [pickL, List.drop]
        have lwW := Nat.le_trans hx.out.size hlwW
        clear hf ht h10 z1 z2 hW hlwW
        have hFW := Lib.hid (hF.out.ext hW'.out)
        have hxW := Lib.hid (hx.out.trans hW'.out)
        go_wp2_with (at_builtin; refine wpList_append_any _ rfl (.tmp 41) (.tmp 55) _ rfl w1.heap.size 25 j0 _ 2 16 Try.underlying22 hj0 jz0 jz1 jz2 rfl (by decide) (.slice (some ⟨g, 0, none⟩) i c) i _ rfl hFW.out.o1.1 (gs + 1) (some ⟨gs, 0, none⟩) 1 1 [.int .i64 (x), .int .i64 (y)] rfl (reads_blk b10.out rfl) (two_int _ _) (by unfold maxLen; omega) (by omega) (by omega) ?_; intro v5 w5 hown5 hg5 hat5; obtain ⟨g5, c5, rfl, hF5⟩ := hFW.out.push hown5 hg5 hat5; have hx5 := Lib.hid (hxW.out.grown hg5 (fun k e => by cases e; exact hFW.out.o1.lt.1)); have hF6 := Lib.hid hF5; clear hown5 hg5 hat5 hF5)
        obtain ⟨_, _, x', y', e1, ex', _, p0, p1⟩ := hata'.out i h1 w5 (hE.out.trans hx5.out)
        cases e1
        have e2 := ex.out.symm.trans ex'.out
        cases e2
        have hT := Lib.hid (take_snoc ex.out)
        have hM := Lib.hid (moveL_snoc (a.take i) by_ x y)
        have hF7 := Lib.hid hF6.out.swap
        clear ex ex' hF6 hFW hxW b10 hgl hF hx
        have z1 := After.cell p0
        have z2 := After.cell p1
        (refine wp_region_held [] [0, 1, 2, 3, 4, 5, 6, 7, 8, 9, 10, 11, 12, 13, 14, 15, 16, 17, 18, 19, 20] [21, 22] (fun _ _ _ => True) (by kernel_rfl) (by kernel_rfl) ?_; simp only [pickL]; with_reducible refine wpQuiet_nil ?_)
        (refine held_quiet [0, 1, 2, 3, 4, 5, 6, 7, 8, 9, 10, 11, 12, 13, 14, 15, 16, 17, 18, 19] [20] (by kernel_rfl) (by kernel_rfl) ?_; simp only [pickL, List.drop]; (repeat (go_big_quiet_step (fail))); with_reducible refine wpQuiet_nil ?_)
        (refine held_made 20 [] rfl (by kernel_rfl) (fun g => .slice (some ⟨g, 0, none⟩) 1 1) (.cells #[.int .i64 (x + by_), .int .i64 (y + by_)] 25) (fun W => by kernel_rfl) (fun g g2 e => by cases e; rfl) (fun g => rfl) ?_)
        intro gs
        simp only [Act.put, List.setIfInBounds_toArray, List.set_cons_succ, List.set_cons_zero]
        intro W hW hf ht Q0 hQ0
        have h10 := (hf 20).2 rfl
        have b10 : Hid (Blk W gs 25 #[.int .i64 (x + by_), .int .i64 (y + by_)]) := Lib.hid h10.1
        have hgl : gs < W.heap.size := b10.out.lt
        have hW' := Lib.hid hW
        have hlwW := hW.size
        simp only [pickL, List.drop]
        have lwW := Nat.le_trans hx5.out.size hlwW
        clear hf ht h10 z1 z2 hW hlwW
        have hFW := Lib.hid (hF7.out.ext hW'.out)
        have hxW := Lib.hid (hx5.out.trans hW'.out)
        go_wp2_with (at_builtin; refine wpList_append_any _ rfl (.tmp 57) (.tmp 77) _ rfl w1.heap.size 25 j0 _ 2 16 Try.underlying22 hj0 jz0 jz1 jz2 rfl (by decide) (.slice (some ⟨g', 0, none⟩) i c') i _ rfl hFW.out.o1.1 (gs + 1) (some ⟨gs, 0, none⟩) 1 1 [.int .i64 (x + by_), .int .i64 (y + by_)] rfl (reads_blk b10.out rfl) (two_int _ _) (by unfold maxLen; omega) (by omega) (by omega) ?_; intro v5 w6 hown5 hg5 hat5; obtain ⟨g6, c6, rfl, hF5⟩ := hFW.out.push hown5 hg5 hat5; have hx6 := Lib.hid (hxW.out.grown hg5 (fun k e => by cases e; exact hFW.out.o1.lt.1)); have hF8 := Lib.hid hF5; clear hown5 hg5 hat5 hF5)
        have hF9 := Lib.hid hF8.out.swap
        rw [← hM.out, ← hT.out] at hF9
        go_roundw
        case rel => exact ⟨i + 1, g5, c5, g6, c6, by omega, by omega, by go_num, rfl, rfl, hx6, hF9⟩
        case measure => simp [intOf]; omega
      · have d1 : decide ((i : Int) < (a.length : Int)) = true := by simp; omega
        have d2 : decide ((i : Int) < 30) = false := by simp; omega
        obtain ⟨A, hA⟩ : ∃ A, Hid (a.take i = A) := ⟨_, Lib.hid rfl⟩
        rw [hA.out] at hF
        have hA32 : Hid (∀ s ∈ A, pair32 s) := Lib.hid fun s hs => ha'.out.2 s (by rw [← hA.out] at hs; exact List.mem_of_mem_take hs)
        have hAl : A.length ≤ 30 := by rw [← hA.out, List.length_take]; omega
        clear hA d1
        have hF1 := Lib.hid hF.out.turn
        clear hF
        go_wp2_with fail
        go_loopw [9, 11, 13] (fun va vb vi wr => ∃ iL gL cL gR cR : Nat, iL ≤ b.length ∧ iL ≤ 30 ∧ vi = .int .i64 iL ∧ va = .slice (some ⟨gL, 0, none⟩) iL cL ∧ vb = .slice (some ⟨gR, 0, none⟩) iL cR ∧ Hid (Ext w1 wr) ∧ Hid (Four w1.heap.size wr gL iL cL (b.take iL) gR iL cR (moveL (b.take iL) by_) g i c A g' i c' (moveL A by_))) (fun _ _ vi _ => b.length - (intOf vi).toNat)
        case atStart => exact ⟨0, _, 0, _, 0, by omega, by omega, rfl, rfl, rfl, hx, hF1⟩
        clear hF1
        case round =>
          obtain ⟨i, g, c, g', c', hi, hi30, rfl, rfl, rfl, hx, hF⟩ := hrel
          by_cases h1 : i < b.length
          · by_cases h2 : i < 30
            · have d1 : decide ((i : Int) < (b.length : Int)) = true := by simp; omega
              have d2 : decide ((i : Int) < 30) = true := by simp; omega
              obtain ⟨b1, o1, x, y, rfl, ex, hp, p0, p1⟩ := hatb'.out i h1 wr (hE.out.trans hx.out)
              obtain ⟨⟨px0, px1⟩, py0, py1⟩ := hp
              dsimp only at px0 px1 py0 py1
              go_wp2_with fail
              have z1 := After.cell p0
              have z2 := After.cell p1
              (refine wp_region_held [] [0, 1, 2, 3, 4, 5, 6, 7, 8, 9, 10, 11, 12, 13, 14] [15, 16] (fun _ _ _ => True) (by kernel_rfl) (by kernel_rfl) ?_; simp only [pickL]; with_reducible refine wpQuiet_nil ?_)
              (refine held_quiet [0, 1, 2, 3, 4, 5, 6, 7, 8, 9, 10, 11, 12, 13] [14] (by kernel_rfl) (by kernel_rfl) ?_; simp only [pickL, List.drop]; (repeat (go_big_quiet_step (fail))); with_reducible refine wpQuiet_nil ?_)
              (refine held_made 14 [] rfl (by kernel_rfl) (fun g => .slice (some ⟨g, 0, none⟩) 1 1) (.cells #[.int .i64 (x), .int .i64 (y)] 25) (fun W => by kernel_rfl) (fun g g2 e => by cases e; rfl) (fun g => rfl) ?_)
              intro gs
              simp only [Act.put, List.setIfInBounds_toArray, List.set_cons_succ, List.set_cons_zero]
              intro W hW hf ht Q0 hQ0
              have h10 := (hf 14).2 rfl
              have b10 : Hid (Blk W gs 25 #[.int .i64 (x), .int .i64 (y)]) := Lib.hid h10.1
              have hgl : gs < W.heap.size := b10.out.lt
              have hW' := Lib.hid hW
              have hlwW := hW.size
              simp only [pickL, List.drop]
              have lwW := Nat.le_trans hx.out.size hlwW
              clear hf ht h10 z1 z2 hW hlwW
              have hFW := Lib.hid (hF.out.ext hW'.out)
              have hxW := Lib.hid (hx.out.trans hW'.out)
              go_wp2_with (at_builtin; refine wpList_append_any _ rfl (.tmp 89) (.tmp 103) _ rfl w1.heap.size 25 j0 _ 2 16 Try.underlying22 hj0 jz0 jz1 jz2 rfl (by decide) (.slice (some ⟨g, 0, none⟩) i c) i _ rfl hFW.out.o1.1 (gs + 1) (some ⟨gs, 0, none⟩) 1 1 [.int .i64 (x), .int .i64 (y)] rfl (reads_blk b10.out rfl) (two_int _ _) (by unfold maxLen; omega) (by omega) (by omega) ?_; intro v5 w5 hown5 hg5 hat5; obtain ⟨g5, c5, rfl, hF5⟩ := hFW.out.push hown5 hg5 hat5; have hx5 := Lib.hid (hxW.out.grown hg5 (fun k e => by cases e; exact hFW.out.o1.lt.1)); have hF6 := Lib.hid hF5; clear hown5 hg5 hat5 hF5)
              obtain ⟨_, _, x', y', e1, ex', _, p0, p1⟩ := hatb'.out i h1 w5 (hE.out.trans hx5.out)
              cases e1
              have e2 := ex.out.symm.trans ex'.out
              cases e2
              have hT := Lib.hid (take_snoc ex.out)
              have hM := Lib.hid (moveL_snoc (b.take i) by_ x y)
              have hF7 := Lib.hid hF6.out.swap
              clear ex ex' hF6 hFW hxW b10 hgl hF hx
              have z1 := After.cell p0
              have z2 := After.cell p1
              (refine wp_region_held [] [0, 1, 2, 3, 4, 5, 6, 7, 8, 9, 10, 11, 12, 13, 14, 15, 16, 17, 18, 19, 20] [21, 22] (fun _ _ _ => True) (by kernel_rfl) (by kernel_rfl) ?_; simp only [pickL]; with_reducible refine wpQuiet_nil ?_)
              (refine held_quiet [0, 1, 2, 3, 4, 5, 6, 7, 8, 9, 10, 11, 12, 13, 14, 15, 16, 17, 18, 19] [20] (by kernel_rfl) (by kernel_rfl) ?_; simp only [pickL, List.drop]; (repeat (go_big_quiet_step (fail))); with_reducible refine wpQuiet_nil ?_)
              (refine held_made 20 [] rfl (by kernel_rfl) (fun g => .slice (some ⟨g, 0, none⟩) 1 1) (.cells #[.int .i64 (x + by_), .int .i64 (y + by_)] 25) (fun W => by kernel_rfl) (fun g g2 e => by cases e; rfl) (fun g => rfl) ?_)
              intro gs
              simp only [Act.put, List.setIfInBounds_toArray, List.set_cons_succ, List.set_cons_zero]
              intro W hW hf ht Q0 hQ0
              have h10 := (hf 20).2 rfl
              have b10 : Hid (Blk W gs 25 #[.int .i64 (x + by_), .int .i64 (y + by_)]) := Lib.hid h10.1
              have hgl : gs < W.heap.size := b10.out.lt
              have hW' := Lib.hid hW
              have hlwW := hW.size
              simp only [pickL, List.drop]
              have lwW := Nat.le_trans hx5.out.size hlwW
              clear hf ht h10 z1 z2 hW hlwW
              have hFW := Lib.hid (hF7.out.ext hW'.out)
              have hxW := Lib.hid (hx5.out.trans hW'.out)
              go_wp2_with (at_builtin; refine wpList_append_any _ rfl (.tmp 105) (.tmp 125) _ rfl w1.heap.size 25 j0 _ 2 16 Try.underlying22 hj0 jz0 jz1 jz2 rfl (by decide) (.slice (some ⟨g', 0, none⟩) i c') i _ rfl hFW.out.o1.1 (gs + 1) (some ⟨gs, 0, none⟩) 1 1 [.int .i64 (x + by_), .int .i64 (y + by_)] rfl (reads_blk b10.out rfl) (two_int _ _) (by unfold maxLen; omega) (by omega) (by omega) ?_; intro v5 w6 hown5 hg5 hat5; obtain ⟨g6, c6, rfl, hF5⟩ := hFW.out.push hown5 hg5 hat5; have hx6 := Lib.hid (hxW.out.grown hg5 (fun k e => by cases e; exact hFW.out.o1.lt.1)); have hF8 := Lib.hid hF5; clear hown5 hg5 hat5 hF5)
              have hF9 := Lib.hid hF8.out.swap
              rw [← hM.out, ← hT.out] at hF9
              go_roundw
              case rel => exact ⟨i + 1, g5, c5, g6, c6, by omega, by omega, by go_num, rfl, rfl, hx6, hF9⟩
              case measure => simp [intOf]; omega
            · have d1 : decide ((i : Int) < (b.length : Int)) = true := by simp; omega
              have d2 : decide ((i : Int) < 30) = false := by simp; omega
              obtain ⟨C, hC⟩ : ∃ C, Hid (b.take i = C) := ⟨_, Lib.hid rfl⟩
              rw [hC.out] at hF
              have hC32 : Hid (∀ s ∈ C, pair32 s) := Lib.hid fun s hs => hb'.out.2 s (by rw [← hC.out] at hs; exact List.mem_of_mem_take hs)
              have hCl : C.length ≤ 30 := by rw [← hC.out, List.length_take]; omega
              clear hC d1
              have hE2 := Lib.hid (hE.out.trans hx.out)
              have hX := Lib.hid hF.out.o3.read
              have hXS := Lib.hid hF.out.o4.read
              have hY := Lib.hid hF.out.o1.read
              have hYS := Lib.hid hF.out.o2.read
              clear hF hx
              have rA : rangedB A = true := ranged32 hA32.out
              have rC : rangedB C = true := ranged32 hC32.out
              have rA2 : rangedB (moveL A by_) = true := ranged32m by0 by1 hA32.out
              have rC2 : rangedB (moveL C by_) = true := ranged32m by0 by1 hC32.out
              obtain ⟨D, hD⟩ : ∃ D, Hid (combL 2 A C = D) := ⟨_, Lib.hid rfl⟩
              have kd : Hid (combT 2 A C = (D, 0)) := Lib.hid (by rw [combT_ok rA rC, hD.out])
              have ks : Hid (combT 2 (moveL A by_) (moveL C by_) = (moveL D by_, 0)) := Lib.hid (by rw [combT_ok rA2 rC2, moveL_comb, hD.out])
              have hAC := moveL_len A by_
              have hCC := moveL_len C by_
              have hDr : Hid (∀ s ∈ D, pair32 s) := Lib.hid (by rw [← hD.out]; exact comb32 hA32.out hC32.out)
              have hDc : Hid (chainB none D = true) := Lib.hid (by rw [← hD.out]; exact comb_chain _ _ _)
              have hDl : D.length ≤ 200 := by have := comb_len 2 A C; rw [hD.out] at this; omega
              clear rA rC rA2 rC2 hD
              go_wp2_with fail
              refine (spanMinus_calls _ _ A C _ hX.out hY.out (by omega) (by omega)).mono ?_
              rintro e w3 ⟨v, rfl, hv, hq⟩
              rw [kd.out] at hv ⊢
              dsimp only at hv ⊢
              obtain ⟨dA, dC, rfl⟩ := hv.read.form
              have hd := Lib.hid hv.read
              replace hE2 := Lib.hid (hE2.out.trans hq)
              replace hXS := Lib.hid (hXS.out.ext hq)
              replace hYS := Lib.hid (hYS.out.ext hq)
              clear hv hq hX hY kd
              go_wp2_with fail
              refine (spanMinus_calls _ _ (moveL A by_) (moveL C by_) _ hXS.out hYS.out (by omega) (by omega)).mono ?_
              rintro e w4 ⟨v, rfl, hv, hq⟩
              rw [ks.out] at hv ⊢
              dsimp only at hv ⊢
              obtain ⟨sA, sC, rfl⟩ := hv.read.form
              have hs := Lib.hid hv.read
              replace hE2 := Lib.hid (hE2.out.trans hq)
              replace hd := Lib.hid (hd.out.ext hq)
              clear hv hq hXS hYS ks hAC hCC
              rw [moveL_len] at hs ⊢
              go_wp2_with fail
              have hdat := hd.out.at_.1
              have hsat := hs.out.at_.1
              have hdat' := Lib.hid hdat
              have hsat' := Lib.hid hsat
              clear hdat hsat
              go_loopw [18] (fun vi wr => ∃ m : Nat, m ≤ D.length ∧ vi = .int .i64 m ∧ Hid (Ext w4 wr)) (fun vi _ => D.length - (intOf vi).toNat)
              case atStart => exact ⟨0, by omega, rfl, Lib.hid (Ext.refl _)⟩
              case round =>
                obtain ⟨m, hm, rfl, hx3⟩ := hrel
                by_cases h3 : m < D.length
                · obtain ⟨b1, o1, x, y, rfl, _, _, ex, g1, g2⟩ := hdat'.out m h3 wr hx3.out
                  obtain ⟨b2, o2, x2, y2, rfl, _, _, ex2, k1, k2⟩ := hsat'.out m (by rw [moveL_len]; exact h3) wr hx3.out
                  have e0 := ex2.out.symm.trans (moveL_get ex.out)
                  cases e0
                  obtain ⟨⟨px0, px1⟩, py0, py1⟩ := hDr.out _ (List.mem_of_getElem? ex.out)
                  dsimp only at px0 px1 py0 py1
                  have z1 := After.cell g1
                  have z2 := After.cell g2
                  have z3 := After.cell k1
                  have z4 := After.cell k2
                  clear ex ex2 g1 g2 k1 k2
                  go_wp2_with fail
                  refine wp_region_after (by kernel_rfl) (by kernel_rfl) ?_
                  repeat (go_big_quiet_step (fail))
                  refine wpQuiet_nil ?_
                  rintro Y ⟨yy, ey⟩
                  have hx4 : Hid (Ext w4 Y) := Lib.hid (by rw [ey]; exact hx3.out.trans yy.ext)
                  clear z1 z2 z3 z4 ey yy hx3
                  go_wp2
                  go_roundw
                  case rel => first | exact ⟨m + 1, by omega, by go_num, hx4⟩ | ((repeat apply Exists.intro); exact ⟨⟨m + 1, by omega, by go_num, hx4⟩, rfl⟩)
                  case measure => simp [intOf]; omega
                · replace hd := Lib.hid (hd.out.ext hx3.out)
                  replace hs := Lib.hid (hs.out.ext hx3.out)
                  replace hE2 := Lib.hid (hE2.out.trans hx3.out)
                  clear hx3 hdat' hsat'
                  go_upto_region 23 with (fail)
                  refine wp_abs (S := fun W => Hid (Ext wr W) ∧ Hid (Blk W wr.heap.size 25 #[.int .i64 (-8589934592), .int .i64 8589934592])) ?_ ?_
                  · exact ⟨Lib.hid (by exact (by repeat' (first | (with_reducible exact Ext.refl _) | (with_reducible assumption) | (with_reducible refine Ext.drewN ?_ _) | (with_reducible refine Ext.drew ?_) | (with_reducible refine Ext.alloc ?_ _) | (with_reducible refine Ext.trans ?_ (by with_reducible assumption))))), Lib.hid (blk_new' rfl rfl)⟩
                  rintro W5 ⟨hq5, hB1⟩
                  have hq := hq5.out
                  replace hd := Lib.hid (hd.out.ext hq)
                  replace hs := Lib.hid (hs.out.ext hq)
                  replace hE2 := Lib.hid (hE2.out.trans hq)
                  clear hq hq5
                  go_wp2_with fail
                  refine (spanGap_calls _ D 5 (-2147483648) 8589934592 _ hd.out (by omega)).mono ?_
                  rintro e w6 ⟨ok, gx, gy, rfl, hgap, hq⟩
                  have hg := Lib.hid (gap_first hDr.out hDc.out hgap)
                  obtain rfl : ok = true := gap_room (m := 2147483647) (fun s hs => (hDr.out s hs).2.2) (by omega) (by omega) hg.out
                  replace hd := Lib.hid (hd.out.ext hq)
                  replace hs := Lib.hid (hs.out.ext hq)
                  replace hE2 := Lib.hid (hE2.out.trans hq)
                  replace hB1 := Lib.hid (hB1.out.below hq hB1.out.lt)
                  clear hq hgap
                  go_upto_region 24 with (fail)
                  refine wp_abs (S := fun W => Hid (Ext w6 W) ∧ Hid (Blk W w6.heap.size 25 #[.int .i64 gx, .int .i64 gy])) ?_ ?_
                  · exact ⟨Lib.hid (by exact (by repeat' (first | (with_reducible exact Ext.refl _) | (with_reducible assumption) | (with_reducible refine Ext.drewN ?_ _) | (with_reducible refine Ext.drew ?_) | (with_reducible refine Ext.alloc ?_ _) | (with_reducible refine Ext.trans ?_ (by with_reducible assumption))))), Lib.hid (blk_new' rfl rfl)⟩
                  rintro W7 ⟨hq7, hB2⟩
                  have hq := hq7.out
                  replace hd := Lib.hid (hd.out.ext hq)
                  replace hs := Lib.hid (hs.out.ext hq)
                  replace hE2 := Lib.hid (hE2.out.trans hq)
                  replace hB1 := Lib.hid (hB1.out.below hq hB1.out.lt)
                  clear hq hq7
                  have hml := moveL_len D by_
                  go_wp2_with fail
                  refine (spanGap_calls _ (moveL D by_) 5 (-2147483648 + by_) (8589934592 + by_) _ hs.out (by omega)).mono ?_
                  rintro e w8 ⟨ok2, hx, hy, rfl, hgap, hq⟩
                  obtain ⟨e1, e2, e3, e4, e5⟩ := gap_second by0 by1 hDr.out hDc.out hg.out hgap
                  subst e1 e2 e3
                  replace hd := Lib.hid (hd.out.ext hq)
                  replace hE2 := Lib.hid (hE2.out.trans hq)
                  replace hB1 := Lib.hid (hB1.out.below hq hB1.out.lt)
                  replace hB2 := Lib.hid (hB2.out.below hq hB2.out.lt)
                  clear hq hgap hg hml hs
                  go_upto_region 25 with (fail)
                  refine wp_abs (S := fun W => Hid (Ext w8 W) ∧ Hid (Blk W w8.heap.size 25 #[.int .i64 (gx + by_), .int .i64 (gy + by_)])) ?_ ?_
                  · exact ⟨Lib.hid (by exact (by repeat' (first | (with_reducible exact Ext.refl _) | (with_reducible assumption) | (with_reducible refine Ext.drewN ?_ _) | (with_reducible refine Ext.drew ?_) | (with_reducible refine Ext.alloc ?_ _) | (with_reducible refine Ext.trans ?_ (by with_reducible assumption))))), Lib.hid (blk_new' rfl rfl)⟩
                  rintro W9 ⟨hq9, hB3⟩
                  have hq := hq9.out
                  replace hd := Lib.hid (hd.out.ext hq)
                  replace hE2 := Lib.hid (hE2.out.trans hq)
                  replace hB1 := Lib.hid (hB1.out.below hq hB1.out.lt)
                  replace hB2 := Lib.hid (hB2.out.below hq hB2.out.lt)
                  clear hq hq9
                  obtain ⟨n1, hn1⟩ : ∃ n1, Hid (combL 2 [(-8589934592, 8589934592)] D = n1) := ⟨_, Lib.hid rfl⟩
                  have kn : Hid (combT 2 [(-8589934592, 8589934592)] D = (n1, 0)) := Lib.hid (by rw [combT_ok (by decide) (ranged32 hDr.out), hn1.out])
                  have hnl : n1.length = D.length + 1 := by
                    rw [← hn1.out]
                    exact holes_comb (by decide) hDc.out (fun s hs => by have := (hDr.out s hs).1.1; omega) (fun s hs => by have := (hDr.out s hs).2.2; omega)
                  have hnl' := Lib.hid hnl
                  have w0c : W9.cell? ⟨wr.heap.size, 0, none⟩ = some (.int .i64 (-8589934592)) := hB1.out.cell 0
                  have w1c : W9.cell? ⟨wr.heap.size, 1, none⟩ = some (.int .i64 8589934592) := hB1.out.cell 1
                  clear hnl hn1
                  go_wp2_with fail
                  refine (spanMinus_calls _ _ [(-8589934592, 8589934592)] D _ (lit_spans W9 [(-8589934592, 8589934592)] (by simp)) (hd.out.ext ((Ext.refl W9).alloc _)) (by simp) (by omega)).mono ?_
                  rintro e w10 ⟨v, rfl, hv, hq0⟩
                  rw [kn.out] at hv ⊢
                  dsimp only at hv ⊢
                  obtain ⟨nA, nC, rfl⟩ := hv.read.form
                  rw [hnl'.out]
                  have hq : Ext W9 w10 := ((Ext.refl W9).alloc _).trans hq0
                  replace hE2 := Lib.hid (hE2.out.trans hq)
                  replace hB2 := Lib.hid (hB2.out.below hq hB2.out.lt)
                  replace hB3 := Lib.hid (hB3.out.below hq hB3.out.lt)
                  have g0 : w10.cell? ⟨w6.heap.size, 0, none⟩ = some (.int .i64 gx) := hB2.out.cell 0
                  have k0 : w10.cell? ⟨w8.heap.size, 0, none⟩ = some (.int .i64 (gx + by_)) := hB3.out.cell 0
                  clear hv hq0 hq kn hB1 w0c w1c hnl'
                  go_wp2
                  go_ret
                  exact ⟨rfl, hE2.out⟩
          · have d1 : decide ((i : Int) < (b.length : Int)) = false := by simp; omega
            obtain ⟨C, hC⟩ : ∃ C, Hid (b.take i = C) := ⟨_, Lib.hid rfl⟩
            rw [hC.out] at hF
            have hC32 : Hid (∀ s ∈ C, pair32 s) := Lib.hid fun s hs => hb'.out.2 s (by rw [← hC.out] at hs; exact List.mem_of_mem_take hs)
            have hCl : C.length ≤ 30 := by rw [← hC.out, List.length_take]; omega
            clear hC d1
            have hE2 := Lib.hid (hE.out.trans hx.out)
            have hX := Lib.hid hF.out.o3.read
            have hXS := Lib.hid hF.out.o4.read
            have hY := Lib.hid hF.out.o1.read
            have hYS := Lib.hid hF.out.o2.read
            clear hF hx
            have rA : rangedB A = true := ranged32 hA32.out
            have rC : rangedB C = true := ranged32 hC32.out
            have rA2 : rangedB (moveL A by_) = true := ranged32m by0 by1 hA32.out
            have rC2 : rangedB (moveL C by_) = true := ranged32m by0 by1 hC32.out
            obtain ⟨D, hD⟩ : ∃ D, Hid (combL 2 A C = D) := ⟨_, Lib.hid rfl⟩
            have kd : Hid (combT 2 A C = (D, 0)) := Lib.hid (by rw [combT_ok rA rC, hD.out])
            have ks : Hid (combT 2 (moveL A by_) (moveL C by_) = (moveL D by_, 0)) := Lib.hid (by rw [combT_ok rA2 rC2, moveL_comb, hD.out])
            have hAC := moveL_len A by_
            have hCC := moveL_len C by_
            have hDr : Hid (∀ s ∈ D, pair32 s) := Lib.hid (by rw [← hD.out]; exact comb32 hA32.out hC32.out)
            have hDc : Hid (chainB none D = true) := Lib.hid (by rw [← hD.out]; exact comb_chain _ _ _)
            have hDl : D.length ≤ 200 := by have := comb_len 2 A C; rw [hD.out] at this; omega
            clear rA rC rA2 rC2 hD
            go_wp2_with fail
            refine (spanMinus_calls _ _ A C _ hX.out hY.out (by omega) (by omega)).mono ?_
            rintro e w3 ⟨v, rfl, hv, hq⟩
            rw [kd.out] at hv ⊢
            dsimp only at hv ⊢
            obtain ⟨dA, dC, rfl⟩ := hv.read.form
            have hd := Lib.hid hv.read
            replace hE2 := Lib.hid (hE2.out.trans hq)
            replace hXS := Lib.hid (hXS.out.ext hq)
            replace hYS := Lib.hid (hYS.out.ext hq)
            clear hv hq hX hY kd
            go_wp2_with fail
            refine (spanMinus_calls _ _ (moveL A by_) (moveL C by_) _ hXS.out hYS.out (by omega) (by omega)).mono ?_
            rintro e w4 ⟨v, rfl, hv, hq⟩
            rw [ks.out] at hv ⊢
            dsimp only at hv ⊢
            obtain ⟨sA, sC, rfl⟩ := hv.read.form
            have hs := Lib.hid hv.read
            replace hE2 := Lib.hid (hE2.out.trans hq)
            replace hd := Lib.hid (hd.out.ext hq)
            clear hv hq hXS hYS ks hAC hCC
            rw [moveL_len] at hs ⊢
            go_wp2_with fail
            have hdat := hd.out.at_.1
            have hsat := hs.out.at_.1
            have hdat' := Lib.hid hdat
            have hsat' := Lib.hid hsat
            clear hdat hsat
            go_loopw [18] (fun vi wr => ∃ m : Nat, m ≤ D.length ∧ vi = .int .i64 m ∧ Hid (Ext w4 wr)) (fun vi _ => D.length - (intOf vi).toNat)
            case atStart => exact ⟨0, by omega, rfl, Lib.hid (Ext.refl _)⟩
            case round =>
              obtain ⟨m, hm, rfl, hx3⟩ := hrel
              by_cases h3 : m < D.length
              · obtain ⟨b1, o1, x, y, rfl, _, _, ex, g1, g2⟩ := hdat'.out m h3 wr hx3.out
                obtain ⟨b2, o2, x2, y2, rfl, _, _, ex2, k1, k2⟩ := hsat'.out m (by rw [moveL_len]; exact h3) wr hx3.out
                have e0 := ex2.out.symm.trans (moveL_get ex.out)
                cases e0
                obtain ⟨⟨px0, px1⟩, py0, py1⟩ := hDr.out _ (List.mem_of_getElem? ex.out)
                dsimp only at px0 px1 py0 py1
                have z1 := After.cell g1
                have z2 := After.cell g2
                have z3 := After.cell k1
                have z4 := After.cell k2
                clear ex ex2 g1 g2 k1 k2
                go_wp2_with fail
                refine wp_region_after (by kernel_rfl) (by kernel_rfl) ?_
                repeat (go_big_quiet_step (fail))
                refine wpQuiet_nil ?_
                rintro Y ⟨yy, ey⟩
                have hx4 : Hid (Ext w4 Y) := Lib.hid (by rw [ey]; exact hx3.out.trans yy.ext)
                clear z1 z2 z3 z4 ey yy hx3
                go_wp2
                go_roundw
                case rel => first | exact ⟨m + 1, by omega, by go_num, hx4⟩ | ((repeat apply Exists.intro); exact ⟨⟨m + 1, by omega, by go_num, hx4⟩, rfl⟩)
                case measure => simp [intOf]; omega
              · replace hd := Lib.hid (hd.out.ext hx3.out)
                replace hs := Lib.hid (hs.out.ext hx3.out)
                replace hE2 := Lib.hid (hE2.out.trans hx3.out)
                clear hx3 hdat' hsat'
                go_upto_region 23 with (fail)
                refine wp_abs (S := fun W => Hid (Ext wr W) ∧ Hid (Blk W wr.heap.size 25 #[.int .i64 (-8589934592), .int .i64 8589934592])) ?_ ?_
                · exact ⟨Lib.hid (by exact (by repeat' (first | (with_reducible exact Ext.refl _) | (with_reducible assumption) | (with_reducible refine Ext.drewN ?_ _) | (with_reducible refine Ext.drew ?_) | (with_reducible refine Ext.alloc ?_ _) | (with_reducible refine Ext.trans ?_ (by with_reducible assumption))))), Lib.hid (blk_new' rfl rfl)⟩
                rintro W5 ⟨hq5, hB1⟩
                have hq := hq5.out
                replace hd := Lib.hid (hd.out.ext hq)
                replace hs := Lib.hid (hs.out.ext hq)
                replace hE2 := Lib.hid (hE2.out.trans hq)
                clear hq hq5
                go_wp2_with fail
                refine (spanGap_calls _ D 5 (-2147483648) 8589934592 _ hd.out (by omega)).mono ?_
                rintro e w6 ⟨ok, gx, gy, rfl, hgap, hq⟩
                have hg := Lib.hid (gap_first hDr.out hDc.out hgap)
                obtain rfl : ok = true := gap_room (m := 2147483647) (fun s hs => (hDr.out s hs).2.2) (by omega) (by omega) hg.out
                replace hd := Lib.hid (hd.out.ext hq)
                replace hs := Lib.hid (hs.out.ext hq)
                replace hE2 := Lib.hid (hE2.out.trans hq)
                replace hB1 := Lib.hid (hB1.out.below hq hB1.out.lt)
                clear hq hgap
                go_upto_region 24 with (fail)
                refine wp_abs (S := fun W => Hid (Ext w6 W) ∧ Hid (Blk W w6.heap.size 25 #[.int .i64 gx, .int .i64 gy])) ?_ ?_
                · exact ⟨Lib.hid (by exact (by repeat' (first | (with_reducible exact Ext.refl _) | (with_reducible assumption) | (with_reducible refine Ext.drewN ?_ _) | (with_reducible refine Ext.drew ?_) | (with_reducible refine Ext.alloc ?_ _) | (with_reducible refine Ext.trans ?_ (by with_reducible assumption))))), Lib.hid (blk_new' rfl rfl)⟩
                rintro W7 ⟨hq7, hB2⟩
                have hq := hq7.out
                replace hd := Lib.hid (hd.out.ext hq)
                replace hs := Lib.hid (hs.out.ext hq)
                replace hE2 := Lib.hid (hE2.out.trans hq)
                replace hB1 := Lib.hid (hB1.out.below hq hB1.out.lt)
                clear hq hq7
                have hml := moveL_len D by_
                go_wp2_with fail
                refine (spanGap_calls _ (moveL D by_) 5 (-2147483648 + by_) (8589934592 + by_) _ hs.out (by omega)).mono ?_
                rintro e w8 ⟨ok2, hx, hy, rfl, hgap, hq⟩
                obtain ⟨e1, e2, e3, e4, e5⟩ := gap_second by0 by1 hDr.out hDc.out hg.out hgap
                subst e1 e2 e3
                replace hd := Lib.hid (hd.out.ext hq)
                replace hE2 := Lib.hid (hE2.out.trans hq)
                replace hB1 := Lib.hid (hB1.out.below hq hB1.out.lt)
                replace hB2 := Lib.hid (hB2.out.below hq hB2.out.lt)
                clear hq hgap hg hml hs
                go_upto_region 25 with (fail)
                refine wp_abs (S := fun W => Hid (Ext w8 W) ∧ Hid (Blk W w8.heap.size 25 #[.int .i64 (gx + by_), .int .i64 (gy + by_)])) ?_ ?_
                · exact ⟨Lib.hid (by exact (by repeat' (first | (with_reducible exact Ext.refl _) | (with_reducible assumption) | (with_reducible refine Ext.drewN ?_ _) | (with_reducible refine Ext.drew ?_) | (with_reducible refine Ext.alloc ?_ _) | (with_reducible refine Ext.trans ?_ (by with_reducible assumption))))), Lib.hid (blk_new' rfl rfl)⟩
                rintro W9 ⟨hq9, hB3⟩
                have hq := hq9.out
                replace hd := Lib.hid (hd.out.ext hq)
                replace hE2 := Lib.hid (hE2.out.trans hq)
                replace hB1 := Lib.hid (hB1.out.below hq hB1.out.lt)
                replace hB2 := Lib.hid (hB2.out.below hq hB2.out.lt)
                clear hq hq9
                obtain ⟨n1, hn1⟩ : ∃ n1, Hid (combL 2 [(-8589934592, 8589934592)] D = n1) := ⟨_, Lib.hid rfl⟩
                have kn : Hid (combT 2 [(-8589934592, 8589934592)] D = (n1, 0)) := Lib.hid (by rw [combT_ok (by decide) (ranged32 hDr.out), hn1.out])
                have hnl : n1.length = D.length + 1 := by
                  rw [← hn1.out]
                  exact holes_comb (by decide) hDc.out (fun s hs => by have := (hDr.out s hs).1.1; omega) (fun s hs => by have := (hDr.out s hs).2.2; omega)
                have hnl' := Lib.hid hnl
                have w0c : W9.cell? ⟨wr.heap.size, 0, none⟩ = some (.int .i64 (-8589934592)) := hB1.out.cell 0
                have w1c : W9.cell? ⟨wr.heap.size, 1, none⟩ = some (.int .i64 8589934592) := hB1.out.cell 1
                clear hnl hn1
                go_wp2_with fail
                refine (spanMinus_calls _ _ [(-8589934592, 8589934592)] D _ (lit_spans W9 [(-8589934592, 8589934592)] (by simp)) (hd.out.ext ((Ext.refl W9).alloc _)) (by simp) (by omega)).mono ?_
                rintro e w10 ⟨v, rfl, hv, hq0⟩
                rw [kn.out] at hv ⊢
                dsimp only at hv ⊢
                obtain ⟨nA, nC, rfl⟩ := hv.read.form
                rw [hnl'.out]
                have hq : Ext W9 w10 := ((Ext.refl W9).alloc _).trans hq0
                replace hE2 := Lib.hid (hE2.out.trans hq)
                replace hB2 := Lib.hid (hB2.out.below hq hB2.out.lt)
                replace hB3 := Lib.hid (hB3.out.below hq hB3.out.lt)
                have g0 : w10.cell? ⟨w6.heap.size, 0, none⟩ = some (.int .i64 gx) := hB2.out.cell 0
                have k0 : w10.cell? ⟨w8.heap.size, 0, none⟩ = some (.int .i64 (gx + by_)) := hB3.out.cell 0
                clear hv hq0 hq kn hB1 w0c w1c hnl'
                go_wp2
                go_ret
                exact ⟨rfl, hE2.out⟩
    · have d1 : decide ((i : Int) < (a.length : Int)) = false := by simp; omega
      obtain ⟨A, hA⟩ : ∃ A, Hid (a.take i = A) := ⟨_, Lib.hid rfl⟩
      rw [hA.out] at hF
      have hA32 : Hid (∀ s ∈ A, pair32 s) := Lib.hid fun s hs => ha'.out.2 s (by rw [← hA.out] at hs; exact List.mem_of_mem_take hs)
      have hAl : A.length ≤ 30 := by rw [← hA.out, List.length_take]; omega
      clear hA d1
      have hF1 := Lib.hid hF.out.turn
      clear hF
      go_wp2_with fail
      go_loopw [9, 11, 13] (fun va vb vi wr => ∃ iL gL cL gR cR : Nat, iL ≤ b.length ∧ iL ≤ 30 ∧ vi = .int .i64 iL ∧ va = .slice (some ⟨gL, 0, none⟩) iL cL ∧ vb = .slice (some ⟨gR, 0, none⟩) iL cR ∧ Hid (Ext w1 wr) ∧ Hid (Four w1.heap.size wr gL iL cL (b.take iL) gR iL cR (moveL (b.take iL) by_) g i c A g' i c' (moveL A by_))) (fun _ _ vi _ => b.length - (intOf vi).toNat)
      case atStart => exact ⟨0, _, 0, _, 0, by omega, by omega, rfl, rfl, rfl, hx, hF1⟩
      clear hF1
      case round =>
        obtain ⟨i, g, c, g', c', hi, hi30, rfl, rfl, rfl, hx, hF⟩ := hrel
        by_cases h1 : i < b.length
        · by_cases h2 : i < 30
          · have d1 : decide ((i : Int) < (b.length : Int)) = true := by simp; omega
            have d2 : decide ((i : Int) < 30) = true := by simp; omega
            obtain ⟨b1, o1, x, y, rfl, ex, hp, p0, p1⟩ := hatb'.out i h1 wr (hE.out.trans hx.out)
            obtain ⟨⟨px0, px1⟩, py0, py1⟩ := hp
            dsimp only at px0 px1 py0 py1
            go_wp2_with fail
            have z1 := After.cell p0
            have z2 := After.cell p1
            (refine wp_region_held [] [0, 1, 2, 3, 4, 5, 6, 7, 8, 9, 10, 11, 12, 13, 14] [15, 16] (fun _ _ _ => True) (by kernel_rfl) (by kernel_rfl) ?_; simp only [pickL]; with_reducible refine wpQuiet_nil ?_)
            (refine held_quiet [0, 1, 2, 3, 4, 5, 6, 7, 8, 9, 10, 11, 12, 13] [14] (by kernel_rfl) (by kernel_rfl) ?_; simp only [pickL, List.drop]; (repeat (go_big_quiet_step (fail))); with_reducible refine wpQuiet_nil ?_)
            (refine held_made 14 [] rfl (by kernel_rfl) (fun g => .slice (some ⟨g, 0, none⟩) 1 1) (.cells #[.int .i64 (x), .int .i64 (y)] 25) (fun W => by kernel_rfl) (fun g g2 e => by cases e; rfl) (fun g => rfl) ?_)
            intro gs
            simp only [Act.put, List.setIfInBounds_toArray, List.set_cons_succ, List.set_cons_zero]
            intro W hW hf ht Q0 hQ0
            have h10 := (hf 14).2 rfl
            have b10 : Hid (Blk W gs 25 #[.int .i64 (x), .int .i64 (y)]) := Lib.hid h10.1
            have hgl : gs < W.heap.size := b10.out.lt
            have hW' := Lib.hid hW
            have hlwW := hW.size
            simp only [pickL, List.drop]
            have lwW := Nat.le_trans hx.out.size hlwW
            clear hf ht h10 z1 z2 hW hlwW
            have hFW := Lib.hid (hF.out.ext hW'.out)
            have hxW := Lib.hid (hx.out.trans hW'.out)
            go_wp2_with (at_builtin; refine wpList_append_any _ rfl (.tmp 89) (.tmp 103) _ rfl w1.heap.size 25 j0 _ 2 16 Try.underlying22 hj0 jz0 jz1 jz2 rfl (by decide) (.slice (some ⟨g, 0, none⟩) i c) i _ rfl hFW.out.o1.1 (gs + 1) (some ⟨gs, 0, none⟩) 1 1 [.int .i64 (x), .int .i64 (y)] rfl (reads_blk b10.out rfl) (two_int _ _) (by unfold maxLen; omega) (by omega) (by omega) ?_; intro v5 w5 hown5 hg5 hat5; obtain ⟨g5, c5, rfl, hF5⟩ := hFW.out.push hown5 hg5 hat5; have hx5 := Lib.hid (hxW.out.grown hg5 (fun k e => by cases e; exact hFW.out.o1.lt.1)); have hF6 := Lib.hid hF5; clear hown5 hg5 hat5 hF5)
            obtain ⟨_, _, x', y', e1, ex', _, p0, p1⟩ := hatb'.out i h1 w5 (hE.out.trans hx5.out)
            cases e1
            have e2 := ex.out.symm.trans ex'.out
            cases e2
            have hT := Lib.hid (take_snoc ex.out)
            have hM := Lib.hid (moveL_snoc (b.take i) by_ x y)
            have hF7 := Lib.hid hF6.out.swap
            clear ex ex' hF6 hFW hxW b10 hgl hF hx
            have z1 := After.cell p0
            have z2 := After.cell p1
            (refine wp_region_held [] [0, 1, 2, 3, 4, 5, 6, 7, 8, 9, 10, 11, 12, 13, 14, 15, 16, 17, 18, 19, 20] [21, 22] (fun _ _ _ => True) (by kernel_rfl) (by kernel_rfl) ?_; simp only [pickL]; with_reducible refine wpQuiet_nil ?_)
            (refine held_quiet [0, 1, 2, 3, 4, 5, 6, 7, 8, 9, 10, 11, 12, 13, 14, 15, 16, 17, 18, 19] [20] (by kernel_rfl) (by kernel_rfl) ?_; simp only [pickL, List.drop]; (repeat (go_big_quiet_step (fail))); with_reducible refine wpQuiet_nil ?_)
            (refine held_made 20 [] rfl (by kernel_rfl) (fun g => .slice (some ⟨g, 0, none⟩) 1 1) (.cells #[.int .i64 (x + by_), .int .i64 (y + by_)] 25) (fun W => by kernel_rfl) (fun g g2 e => by cases e; rfl) (fun g => rfl) ?_)
            intro gs
            simp only [Act.put, List.setIfInBounds_toArray, List.set_cons_succ, List.set_cons_zero]
            intro W hW hf ht Q0 hQ0
            have h10 := (hf 20).2 rfl
            have b10 : Hid (Blk W gs 25 #[.int .i64 (x + by_), .int .i64 (y + by_)]) := Lib.hid h10.1
            have hgl : gs < W.heap.size := b10.out.lt
            have hW' := Lib.hid hW
            have hlwW := hW.size
            simp only [pickL, List.drop]
            have lwW := Nat.le_trans hx5.out.size hlwW
            clear hf ht h10 z1 z2 hW hlwW
            have hFW := Lib.hid (hF7.out.ext hW'.out)
            have hxW := Lib.hid (hx5.out.trans hW'.out)
            go_wp2_with (at_builtin; refine wpList_append_any _ rfl (.tmp 105) (.tmp 125) _ rfl w1.heap.size 25 j0 _ 2 16 Try.underlying22 hj0 jz0 jz1 jz2 rfl (by decide) (.slice (some ⟨g', 0, none⟩) i c') i _ rfl hFW.out.o1.1 (gs + 1) (some ⟨gs, 0, none⟩) 1 1 [.int .i64 (x + by_), .int .i64 (y + by_)] rfl (reads_blk b10.out rfl) (two_int _ _) (by unfold maxLen; omega) (by omega) (by omega) ?_; intro v5 w6 hown5 hg5 hat5; obtain ⟨g6, c6, rfl, hF5⟩ := hFW.out.push hown5 hg5 hat5; have hx6 := Lib.hid (hxW.out.grown hg5 (fun k e => by cases e; exact hFW.out.o1.lt.1)); have hF8 := Lib.hid hF5; clear hown5 hg5 hat5 hF5)
            have hF9 := Lib.hid hF8.out.swap
            rw [← hM.out, ← hT.out] at hF9
            go_roundw
            case rel => exact ⟨i + 1, g5, c5, g6, c6, by omega, by omega, by go_num, rfl, rfl, hx6, hF9⟩
            case measure => simp [intOf]; omega
          · have d1 : decide ((i : Int) < (b.length : Int)) = true := by simp; omega
            have d2 : decide ((i : Int) < 30) = false := by simp; omega
            obtain ⟨C, hC⟩ : ∃ C, Hid (b.take i = C) := ⟨_, Lib.hid rfl⟩
            rw [hC.out] at hF
            have hC32 : Hid (∀ s ∈ C, pair32 s) := Lib.hid fun s hs => hb'.out.2 s (by rw [← hC.out] at hs; exact List.mem_of_mem_take hs)
            have hCl : C.length ≤ 30 := by rw [← hC.out, List.length_take]; omega
            clear hC d1
            have hE2 := Lib.hid (hE.out.trans hx.out)
            have hX := Lib.hid hF.out.o3.read
            have hXS := Lib.hid hF.out.o4.read
            have hY := Lib.hid hF.out.o1.read
            have hYS := Lib.hid hF.out.o2.read
            clear hF hx
            have rA : rangedB A = true := ranged32 hA32.out
            have rC : rangedB C = true := ranged32 hC32.out
            have rA2 : rangedB (moveL A by_) = true := ranged32m by0 by1 hA32.out
            have rC2 : rangedB (moveL C by_) = true := ranged32m by0 by1 hC32.out
            obtain ⟨D, hD⟩ : ∃ D, Hid (combL 2 A C = D) := ⟨_, Lib.hid rfl⟩
            have kd : Hid (combT 2 A C = (D, 0)) := Lib.hid (by rw [combT_ok rA rC, hD.out])
            have ks : Hid (combT 2 (moveL A by_) (moveL C by_) = (moveL D by_, 0)) := Lib.hid (by rw [combT_ok rA2 rC2, moveL_comb, hD.out])
            have hAC := moveL_len A by_
            have hCC := moveL_len C by_
            have hDr : Hid (∀ s ∈ D, pair32 s) := Lib.hid (by rw [← hD.out]; exact comb32 hA32.out hC32.out)
            have hDc : Hid (chainB none D = true) := Lib.hid (by rw [← hD.out]; exact comb_chain _ _ _)
            have hDl : D.length ≤ 200 := by have := comb_len 2 A C; rw [hD.out] at this; omega
            clear rA rC rA2 rC2 hD
            go_wp2_with fail
            refine (spanMinus_calls _ _ A C _ hX.out hY.out (by omega) (by omega)).mono ?_
            rintro e w3 ⟨v, rfl, hv, hq⟩
            rw [kd.out] at hv ⊢
            dsimp only at hv ⊢
            obtain ⟨dA, dC, rfl⟩ := hv.read.form
            have hd := Lib.hid hv.read
            replace hE2 := Lib.hid (hE2.out.trans hq)
            replace hXS := Lib.hid (hXS.out.ext hq)
            replace hYS := Lib.hid (hYS.out.ext hq)
            clear hv hq hX hY kd
            go_wp2_with fail
            refine (spanMinus_calls _ _ (moveL A by_) (moveL C by_) _ hXS.out hYS.out (by omega) (by omega)).mono ?_
            rintro e w4 ⟨v, rfl, hv, hq⟩
            rw [ks.out] at hv ⊢
            dsimp only at hv ⊢
            obtain ⟨sA, sC, rfl⟩ := hv.read.form
            have hs := Lib.hid hv.read
            replace hE2 := Lib.hid (hE2.out.trans hq)
            replace hd := Lib.hid (hd.out.ext hq)
            clear hv hq hXS hYS ks hAC hCC
            rw [moveL_len] at hs ⊢
            go_wp2_with fail
            have hdat := hd.out.at_.1
            have hsat := hs.out.at_.1
            have hdat' := Lib.hid hdat
            have hsat' := Lib.hid hsat
            clear hdat hsat
            go_loopw [18] (fun vi wr => ∃ m : Nat, m ≤ D.length ∧ vi = .int .i64 m ∧ Hid (Ext w4 wr)) (fun vi _ => D.length - (intOf vi).toNat)
            case atStart => exact ⟨0, by omega, rfl, Lib.hid (Ext.refl _)⟩
            case round =>
              obtain ⟨m, hm, rfl, hx3⟩ := hrel
              by_cases h3 : m < D.length
              · obtain ⟨b1, o1, x, y, rfl, _, _, ex, g1, g2⟩ := hdat'.out m h3 wr hx3.out
                obtain ⟨b2, o2, x2, y2, rfl, _, _, ex2, k1, k2⟩ := hsat'.out m (by rw [moveL_len]; exact h3) wr hx3.out
                have e0 := ex2.out.symm.trans (moveL_get ex.out)
                cases e0
                obtain ⟨⟨px0, px1⟩, py0, py1⟩ := hDr.out _ (List.mem_of_getElem? ex.out)
                dsimp only at px0 px1 py0 py1
                have z1 := After.cell g1
                have z2 := After.cell g2
                have z3 := After.cell k1
                have z4 := After.cell k2
                clear ex ex2 g1 g2 k1 k2
                go_wp2_with fail
                refine wp_region_after (by kernel_rfl) (by kernel_rfl) ?_
                repeat (go_big_quiet_step (fail))
                refine wpQuiet_nil ?_
                rintro Y ⟨yy, ey⟩
                have hx4 : Hid (Ext w4 Y) := Lib.hid (by rw [ey]; exact hx3.out.trans yy.ext)
                clear z1 z2 z3 z4 ey yy hx3
                go_wp2
                go_roundw
                case rel => first | exact ⟨m + 1, by omega, by go_num, hx4⟩ | ((repeat apply Exists.intro); exact ⟨⟨m + 1, by omega, by go_num, hx4⟩, rfl⟩)
                case measure => simp [intOf]; omega
              · replace hd := Lib.hid (hd.out.ext hx3.out)
                replace hs := Lib.hid (hs.out.ext hx3.out)
                replace hE2 := Lib.hid (hE2.out.trans hx3.out)
                clear hx3 hdat' hsat'
                go_upto_region 23 with (fail)
                refine wp_abs (S := fun W => Hid (Ext wr W) ∧ Hid (Blk W wr.heap.size 25 #[.int .i64 (-8589934592), .int .i64 8589934592])) ?_ ?_
                · exact ⟨Lib.hid (by exact (by repeat' (first | (with_reducible exact Ext.refl _) | (with_reducible assumption) | (with_reducible refine Ext.drewN ?_ _) | (with_reducible refine Ext.drew ?_) | (with_reducible refine Ext.alloc ?_ _) | (with_reducible refine Ext.trans ?_ (by with_reducible assumption))))), Lib.hid (blk_new' rfl rfl)⟩
                rintro W5 ⟨hq5, hB1⟩
                have hq := hq5.out
                replace hd := Lib.hid (hd.out.ext hq)
                replace hs := Lib.hid (hs.out.ext hq)
                replace hE2 := Lib.hid (hE2.out.trans hq)
                clear hq hq5
                go_wp2_with fail
                refine (spanGap_calls _ D 5 (-2147483648) 8589934592 _ hd.out (by omega)).mono ?_
                rintro e w6 ⟨ok, gx, gy, rfl, hgap, hq⟩
                have hg := Lib.hid (gap_first hDr.out hDc.out hgap)
                obtain rfl : ok = true := gap_room (m := 2147483647) (fun s hs => (hDr.out s hs).2.2) (by omega) (by omega) hg.out
                replace hd := Lib.hid (hd.out.ext hq)
                replace hs := Lib.hid (hs.out.ext hq)
                replace hE2 := Lib.hid (hE2.out.trans hq)
                replace hB1 := Lib.hid (hB1.out.below hq hB1.out.lt)
                clear hq hgap
                go_upto_region 24 with (fail)
                refine wp_abs (S := fun W => Hid (Ext w6 W) ∧ Hid (Blk W w6.heap.size 25 #[.int .i64 gx, .int .i64 gy])) ?_ ?_
                · exact ⟨Lib.hid (by exact (by repeat' (first | (with_reducible exact Ext.refl _) | (with_reducible assumption) | (with_reducible refine Ext.drewN ?_ _) | (with_reducible refine Ext.drew ?_) | (with_reducible refine Ext.alloc ?_ _) | (with_reducible refine Ext.trans ?_ (by with_reducible assumption))))), Lib.hid (blk_new' rfl rfl)⟩
                rintro W7 ⟨hq7, hB2⟩
                have hq := hq7.out
                replace hd := Lib.hid (hd.out.ext hq)
                replace hs := Lib.hid (hs.out.ext hq)
                replace hE2 := Lib.hid (hE2.out.trans hq)
                replace hB1 := Lib.hid (hB1.out.below hq hB1.out.lt)
                clear hq hq7
                have hml := moveL_len D by_
                go_wp2_with fail
                refine (spanGap_calls _ (moveL D by_) 5 (-2147483648 + by_) (8589934592 + by_) _ hs.out (by omega)).mono ?_
                rintro e w8 ⟨ok2, hx, hy, rfl, hgap, hq⟩
                obtain ⟨e1, e2, e3, e4, e5⟩ := gap_second by0 by1 hDr.out hDc.out hg.out hgap
                subst e1 e2 e3
                replace hd := Lib.hid (hd.out.ext hq)
                replace hE2 := Lib.hid (hE2.out.trans hq)
                replace hB1 := Lib.hid (hB1.out.below hq hB1.out.lt)
                replace hB2 := Lib.hid (hB2.out.below hq hB2.out.lt)
                clear hq hgap hg hml hs
                go_upto_region 25 with (fail)
                refine wp_abs (S := fun W => Hid (Ext w8 W) ∧ Hid (Blk W w8.heap.size 25 #[.int .i64 (gx + by_), .int .i64 (gy + by_)])) ?_ ?_
                · exact ⟨Lib.hid (by exact (by repeat' (first | (with_reducible exact Ext.refl _) | (with_reducible assumption) | (with_reducible refine Ext.drewN ?_ _) | (with_reducible refine Ext.drew ?_) | (with_reducible refine Ext.alloc ?_ _) | (with_reducible refine Ext.trans ?_ (by with_reducible assumption))))), Lib.hid (blk_new' rfl rfl)⟩
                rintro W9 ⟨hq9, hB3⟩
                have hq := hq9.out
                replace hd := Lib.hid (hd.out.ext hq)
                replace hE2 := Lib.hid (hE2.out.trans hq)
                replace hB1 := Lib.hid (hB1.out.below hq hB1.out.lt)
                replace hB2 := Lib.hid (hB2.out.below hq hB2.out.lt)
                clear hq hq9
                obtain ⟨n1, hn1⟩ : ∃ n1, Hid (combL 2 [(-8589934592, 8589934592)] D = n1) := ⟨_, Lib.hid rfl⟩
                have kn : Hid (combT 2 [(-8589934592, 8589934592)] D = (n1, 0)) := Lib.hid (by rw [combT_ok (by decide) (ranged32 hDr.out), hn1.out])
                have hnl : n1.length = D.length + 1 := by
                  rw [← hn1.out]
                  exact holes_comb (by decide) hDc.out (fun s hs => by have := (hDr.out s hs).1.1; omega) (fun s hs => by have := (hDr.out s hs).2.2; omega)
                have hnl' := Lib.hid hnl
                have w0c : W9.cell? ⟨wr.heap.size, 0, none⟩ = some (.int .i64 (-8589934592)) := hB1.out.cell 0
                have w1c : W9.cell? ⟨wr.heap.size, 1, none⟩ = some (.int .i64 8589934592) := hB1.out.cell 1
                clear hnl hn1
                go_wp2_with fail
                refine (spanMinus_calls _ _ [(-8589934592, 8589934592)] D _ (lit_spans W9 [(-8589934592, 8589934592)] (by simp)) (hd.out.ext ((Ext.refl W9).alloc _)) (by simp) (by omega)).mono ?_
                rintro e w10 ⟨v, rfl, hv, hq0⟩
                rw [kn.out] at hv ⊢
                dsimp only at hv ⊢
                obtain ⟨nA, nC, rfl⟩ := hv.read.form
                rw [hnl'.out]
                have hq : Ext W9 w10 := ((Ext.refl W9).alloc _).trans hq0
                replace hE2 := Lib.hid (hE2.out.trans hq)
                replace hB2 := Lib.hid (hB2.out.below hq hB2.out.lt)
                replace hB3 := Lib.hid (hB3.out.below hq hB3.out.lt)
                have g0 : w10.cell? ⟨w6.heap.size, 0, none⟩ = some (.int .i64 gx) := hB2.out.cell 0
                have k0 : w10.cell? ⟨w8.heap.size, 0, none⟩ = some (.int .i64 (gx + by_)) := hB3.out.cell 0
                clear hv hq0 hq kn hB1 w0c w1c hnl'
                go_wp2
                go_ret
                exact ⟨rfl, hE2.out⟩
        · have d1 : decide ((i : Int) < (b.length : Int)) = false := by simp; omega
          obtain ⟨C, hC⟩ : ∃ C, Hid (b.take i = C) := ⟨_, Lib.hid rfl⟩
          rw [hC.out] at hF
          have hC32 : Hid (∀ s ∈ C, pair32 s) := Lib.hid fun s hs => hb'.out.2 s (by rw [← hC.out] at hs; exact List.mem_of_mem_take hs)
          have hCl : C.length ≤ 30 := by rw [← hC.out, List.length_take]; omega
          clear hC d1
          have hE2 := Lib.hid (hE.out.trans hx.out)
          have hX := Lib.hid hF.out.o3.read
          have hXS := Lib.hid hF.out.o4.read
          have hY := Lib.hid hF.out.o1.read
          have hYS := Lib.hid hF.out.o2.read
          clear hF hx
          have rA : rangedB A = true := ranged32 hA32.out
          have rC : rangedB C = true := ranged32 hC32.out
          have rA2 : rangedB (moveL A by_) = true := ranged32m by0 by1 hA32.out
          have rC2 : rangedB (moveL C by_) = true := ranged32m by0 by1 hC32.out
          obtain ⟨D, hD⟩ : ∃ D, Hid (combL 2 A C = D) := ⟨_, Lib.hid rfl⟩
          have kd : Hid (combT 2 A C = (D, 0)) := Lib.hid (by rw [combT_ok rA rC, hD.out])
          have ks : Hid (combT 2 (moveL A by_) (moveL C by_) = (moveL D by_, 0)) := Lib.hid (by rw [combT_ok rA2 rC2, moveL_comb, hD.out])
          have hAC := moveL_len A by_
          have hCC := moveL_len C by_
          have hDr : Hid (∀ s ∈ D, pair32 s) := Lib.hid (by rw [← hD.out]; exact comb32 hA32.out hC32.out)
          have hDc : Hid (chainB none D = true) := Lib.hid (by rw [← hD.out]; exact comb_chain _ _ _)
          have hDl : D.length ≤ 200 := by have := comb_len 2 A C; rw [hD.out] at this; omega
          clear rA rC rA2 rC2 hD
          go_wp2_with fail
          refine (spanMinus_calls _ _ A C _ hX.out hY.out (by omega) (by omega)).mono ?_
          rintro e w3 ⟨v, rfl, hv, hq⟩
          rw [kd.out] at hv ⊢
          dsimp only at hv ⊢
          obtain ⟨dA, dC, rfl⟩ := hv.read.form
          have hd := Lib.hid hv.read
          replace hE2 := Lib.hid (hE2.out.trans hq)
          replace hXS := Lib.hid (hXS.out.ext hq)
          replace hYS := Lib.hid (hYS.out.ext hq)
          clear hv hq hX hY kd
          go_wp2_with fail
          refine (spanMinus_calls _ _ (moveL A by_) (moveL C by_) _ hXS.out hYS.out (by omega) (by omega)).mono ?_
          rintro e w4 ⟨v, rfl, hv, hq⟩
          rw [ks.out] at hv ⊢
          dsimp only at hv ⊢
          obtain ⟨sA, sC, rfl⟩ := hv.read.form
          have hs := Lib.hid hv.read
          replace hE2 := Lib.hid (hE2.out.trans hq)
          replace hd := Lib.hid (hd.out.ext hq)
          clear hv hq hXS hYS ks hAC hCC
          rw [moveL_len] at hs ⊢
          go_wp2_with fail
          have hdat := hd.out.at_.1
          have hsat := hs.out.at_.1
          have hdat' := Lib.hid hdat
          have hsat' := Lib.hid hsat
          clear hdat hsat
          go_loopw [18] (fun vi wr => ∃ m : Nat, m ≤ D.length ∧ vi = .int .i64 m ∧ Hid (Ext w4 wr)) (fun vi _ => D.length - (intOf vi).toNat)
          case atStart => exact ⟨0, by omega, rfl, Lib.hid (Ext.refl _)⟩
          case round =>
            obtain ⟨m, hm, rfl, hx3⟩ := hrel
            by_cases h3 : m < D.length
            · obtain ⟨b1, o1, x, y, rfl, _, _, ex, g1, g2⟩ := hdat'.out m h3 wr hx3.out
              obtain ⟨b2, o2, x2, y2, rfl, _, _, ex2, k1, k2⟩ := hsat'.out m (by rw [moveL_len]; exact h3) wr hx3.out
              have e0 := ex2.out.symm.trans (moveL_get ex.out)
              cases e0
              obtain ⟨⟨px0, px1⟩, py0, py1⟩ := hDr.out _ (List.mem_of_getElem? ex.out)
              dsimp only at px0 px1 py0 py1
              have z1 := After.cell g1
              have z2 := After.cell g2
              have z3 := After.cell k1
              have z4 := After.cell k2
              clear ex ex2 g1 g2 k1 k2
              go_wp2_with fail
              refine wp_region_after (by kernel_rfl) (by kernel_rfl) ?_
              repeat (go_big_quiet_step (fail))
              refine wpQuiet_nil ?_
              rintro Y ⟨yy, ey⟩
              have hx4 : Hid (Ext w4 Y) := Lib.hid (by rw [ey]; exact hx3.out.trans yy.ext)
              clear z1 z2 z3 z4 ey yy hx3
              go_wp2
              go_roundw
              case rel => first | exact ⟨m + 1, by omega, by go_num, hx4⟩ | ((repeat apply Exists.intro); exact ⟨⟨m + 1, by omega, by go_num, hx4⟩, rfl⟩)
              case measure => simp [intOf]; omega
            · replace hd := Lib.hid (hd.out.ext hx3.out)
              replace hs := Lib.hid (hs.out.ext hx3.out)
              replace hE2 := Lib.hid (hE2.out.trans hx3.out)
              clear hx3 hdat' hsat'
              go_upto_region 23 with (fail)
              refine wp_abs (S := fun W => Hid (Ext wr W) ∧ Hid (Blk W wr.heap.size 25 #[.int .i64 (-8589934592), .int .i64 8589934592])) ?_ ?_
              · exact ⟨Lib.hid (by exact (by repeat' (first | (with_reducible exact Ext.refl _) | (with_reducible assumption) | (with_reducible refine Ext.drewN ?_ _) | (with_reducible refine Ext.drew ?_) | (with_reducible refine Ext.alloc ?_ _) | (with_reducible refine Ext.trans ?_ (by with_reducible assumption))))), Lib.hid (blk_new' rfl rfl)⟩
              rintro W5 ⟨hq5, hB1⟩
              have hq := hq5.out
              replace hd := Lib.hid (hd.out.ext hq)
              replace hs := Lib.hid (hs.out.ext hq)
              replace hE2 := Lib.hid (hE2.out.trans hq)
              clear hq hq5
              go_wp2_with fail
              refine (spanGap_calls _ D 5 (-2147483648) 8589934592 _ hd.out (by omega)).mono ?_
              rintro e w6 ⟨ok, gx, gy, rfl, hgap, hq⟩
              have hg := Lib.hid (gap_first hDr.out hDc.out hgap)
              obtain rfl : ok = true := gap_room (m := 2147483647) (fun s hs => (hDr.out s hs).2.2) (by omega) (by omega) hg.out
              replace hd := Lib.hid (hd.out.ext hq)
              replace hs := Lib.hid (hs.out.ext hq)
              replace hE2 := Lib.hid (hE2.out.trans hq)
              replace hB1 := Lib.hid (hB1.out.below hq hB1.out.lt)
              clear hq hgap
              go_upto_region 24 with (fail)
              refine wp_abs (S := fun W => Hid (Ext w6 W) ∧ Hid (Blk W w6.heap.size 25 #[.int .i64 gx, .int .i64 gy])) ?_ ?_
              · exact ⟨Lib.hid (by exact (by repeat' (first | (with_reducible exact Ext.refl _) | (with_reducible assumption) | (with_reducible refine Ext.drewN ?_ _) | (with_reducible refine Ext.drew ?_) | (with_reducible refine Ext.alloc ?_ _) | (with_reducible refine Ext.trans ?_ (by with_reducible assumption))))), Lib.hid (blk_new' rfl rfl)⟩
              rintro W7 ⟨hq7, hB2⟩
              have hq := hq7.out
              replace hd := Lib.hid (hd.out.ext hq)
              replace hs := Lib.hid (hs.out.ext hq)
              replace hE2 := Lib.hid (hE2.out.trans hq)
              replace hB1 := Lib.hid (hB1.out.below hq hB1.out.lt)
              clear hq hq7
              have hml := moveL_len D by_
              go_wp2_with fail
              refine (spanGap_calls _ (moveL D by_) 5 (-2147483648 + by_) (8589934592 + by_) _ hs.out (by omega)).mono ?_
              rintro e w8 ⟨ok2, hx, hy, rfl, hgap, hq⟩
              obtain ⟨e1, e2, e3, e4, e5⟩ := gap_second by0 by1 hDr.out hDc.out hg.out hgap
              subst e1 e2 e3
              replace hd := Lib.hid (hd.out.ext hq)
              replace hE2 := Lib.hid (hE2.out.trans hq)
              replace hB1 := Lib.hid (hB1.out.below hq hB1.out.lt)
              replace hB2 := Lib.hid (hB2.out.below hq hB2.out.lt)
              clear hq hgap hg hml hs
              go_upto_region 25 with (fail)
              refine wp_abs (S := fun W => Hid (Ext w8 W) ∧ Hid (Blk W w8.heap.size 25 #[.int .i64 (gx + by_), .int .i64 (gy + by_)])) ?_ ?_
              · exact ⟨Lib.hid (by exact (by repeat' (first | (with_reducible exact Ext.refl _) | (with_reducible assumption) | (with_reducible refine Ext.drewN ?_ _) | (with_reducible refine Ext.drew ?_) | (with_reducible refine Ext.alloc ?_ _) | (with_reducible refine Ext.trans ?_ (by with_reducible assumption))))), Lib.hid (blk_new' rfl rfl)⟩
              rintro W9 ⟨hq9, hB3⟩
              have hq := hq9.out
              replace hd := Lib.hid (hd.out.ext hq)
              replace hE2 := Lib.hid (hE2.out.trans hq)
              replace hB1 := Lib.hid (hB1.out.below hq hB1.out.lt)
              replace hB2 := Lib.hid (hB2.out.below hq hB2.out.lt)
              clear hq hq9
              obtain ⟨n1, hn1⟩ : ∃ n1, Hid (combL 2 [(-8589934592, 8589934592)] D = n1) := ⟨_, Lib.hid rfl⟩
              have kn : Hid (combT 2 [(-8589934592, 8589934592)] D = (n1, 0)) := Lib.hid (by rw [combT_ok (by decide) (ranged32 hDr.out), hn1.out])
              have hnl : n1.length = D.length + 1 := by
                rw [← hn1.out]
                exact holes_comb (by decide) hDc.out (fun s hs => by have := (hDr.out s hs).1.1; omega) (fun s hs => by have := (hDr.out s hs).2.2; omega)
              have hnl' := Lib.hid hnl
              have w0c : W9.cell? ⟨wr.heap.size, 0, none⟩ = some (.int .i64 (-8589934592)) := hB1.out.cell 0
              have w1c : W9.cell? ⟨wr.heap.size, 1, none⟩ = some (.int .i64 8589934592) := hB1.out.cell 1
              clear hnl hn1
              go_wp2_with fail
              refine (spanMinus_calls _ _ [(-8589934592, 8589934592)] D _ (lit_spans W9 [(-8589934592, 8589934592)] (by simp)) (hd.out.ext ((Ext.refl W9).alloc _)) (by simp) (by omega)).mono ?_
              rintro e w10 ⟨v, rfl, hv, hq0⟩
              rw [kn.out] at hv ⊢
              dsimp only at hv ⊢
              obtain ⟨nA, nC, rfl⟩ := hv.read.form
              rw [hnl'.out]
              have hq : Ext W9 w10 := ((Ext.refl W9).alloc _).trans hq0
              replace hE2 := Lib.hid (hE2.out.trans hq)
              replace hB2 := Lib.hid (hB2.out.below hq hB2.out.lt)
              replace hB3 := Lib.hid (hB3.out.below hq hB3.out.lt)
              have g0 : w10.cell? ⟨w6.heap.size, 0, none⟩ = some (.int .i64 gx) := hB2.out.cell 0
              have k0 : w10.cell? ⟨w8.heap.size, 0, none⟩ = some (.int .i64 (gx + by_)) := hB3.out.cell 0
              clear hv hq0 hq kn hB1 w0c w1c hnl'
              go_wp2
              go_ret
              exact ⟨rfl, hE2.out⟩
end Go.Proofs.Ytfajejelelbmmaa
