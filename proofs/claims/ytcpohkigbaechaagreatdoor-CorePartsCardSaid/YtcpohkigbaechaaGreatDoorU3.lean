/- The law CoreOf, walked: true for every list of raw wishes. -/
import Derived.Test.YtcpohkigbaechaaGreatDoorUG
import Derived.Test.YtcpohkigbaechaaGreatDoorUI
namespace Go.Proofs.YtcpohkigbaechaaGreatDoor
open Go.RowKit Go.Shelf List

theorem best_stand {t : List WishD} {w w' : World} {e : Ending} (hv : validT t = 0) (h : BestOut t w e w') :
    ∃ a n c q cv, e = .returned (.tuple #[.agg #[.slice a n c, .int .i64 q], cv, .int .i64 (if standB t then 0 else 4)]) ∧ Ext w w' ∧ (standB t = true → ∃ p, Ints w' (.slice a n c) p ∧ lawfulB t p = true) := by
  rcases best_out hv h with ⟨h1, rfl, hx⟩ | ⟨pv, cv, p, q, hb, rfl, hx, hp, _⟩
  · have hs : standB t = false := by
      cases hs : standB t with
      | false => rfl
      | true => exact absurd h1 (standB_ne.1 hs)
    rw [hs]
    exact ⟨_, _, _, _, _, rfl, hx, fun e => by cases e⟩
  · have hs : standB t = true := by
      rw [standB_ne]
      intro e
      rw [bestOf, e] at hb
      cases hb
    obtain ⟨pa, pc, rfl⟩ := hp.form
    rw [hs]
    exact ⟨_, _, _, _, _, rfl, hx, fun _ => ⟨p, hp, (bestOf_spec hv hb).1⟩⟩
theorem small_tree {t : List WishD} (hs : SmallT t) : treeMax t ≤ 65536 := by
  have := hs.tree (l := upI t.length) upI_idx (by rw [upI_len]; exact hs.len)
  rwa [subT_up] at this
set_option maxHeartbeats 6400000 in
set_option maxRecDepth 100000 in
theorem coreOf_calls (va : Value) (l : List RawD) (w : World) (hl : Raws w va l) (hTab : Tab10 w) :
    Calls Tryz.prog 10 #[va] w fun e w' => e = .returned (.bool true) ∧ Ext w w' := by
  have hok := hl.ok
  obtain ⟨T, hTd⟩ : ∃ T, Hid (made34 l = T) := ⟨_, rfl⟩
  have hs : SmallT T := hTd.out ▸ made34_small hok
  have hv : validT T = 0 := hTd.out ▸ made34_valid hok
  have hlen : 0 < T.length ∧ T.length ≤ 6 := hTd.out ▸ made34_len (l := l)
  obtain ⟨hlen0, hlen6⟩ := hlen
  have hs' := Lib.hid hs
  have hv' := Lib.hid hv
  have hRw := Lib.hid hl
  have hTb := Lib.hid hTab
  obtain ⟨lA, lC, rfl, _, _, _⟩ := hl.open
  clear hok hl hTab
  cases hst : standB T with
  | true =>
    have hof' : Hid (ofT T = ([], false, 0)) := Lib.hid (of_stands hs hv hst)
    have hst0 := Lib.hid hst
    clear hs hv hst
    go_enter Tryz.func10, Tryz.ntmps10
    go_wp2_with fail
    refine (sanity34_calls _ (hTb.out.ext (by exact (by repeat' (first | (with_reducible exact Ext.refl _) | (with_reducible assumption) | (with_reducible refine Ext.drewN ?_ _) | (with_reducible refine Ext.drew ?_) | (with_reducible refine Ext.alloc ?_ _) | (with_reducible refine Ext.trans ?_ (by with_reducible assumption))))))).mono ?_
    rintro e w1 ⟨rfl, hx⟩
    have hE := Lib.hid (show Ext w w1 from Ext.trans (by exact (by repeat' (first | (with_reducible exact Ext.refl _) | (with_reducible assumption) | (with_reducible refine Ext.drewN ?_ _) | (with_reducible refine Ext.drew ?_) | (with_reducible refine Ext.alloc ?_ _) | (with_reducible refine Ext.trans ?_ (by with_reducible assumption))))) hx)
    replace hTb := Lib.hid (hTb.out.ext hE.out)
    replace hRw := Lib.hid (hRw.out.ext hE.out)
    clear hx
    go_wp2_with fail
    refine (made34_calls _ l w1 hRw.out).mono ?_
    rw [hTd.out]
    rintro e w2 ⟨tv, rfl, ht, hq⟩
    have ht2 := ht.read
    obtain ⟨ta, tc, rfl⟩ := ht2.form
    have hTw := Lib.hid ht2
    replace hTb := Lib.hid (hTb.out.ext hq)
    replace hE := Lib.hid (hE.out.trans hq)
    (try replace hX := Lib.hid ((Keep.of_ext (X := fun _ => False) hq).blk hX.out id))
    clear ht ht2 hq hRw
    go_wp2_with fail
    have hq0 := Lib.hid ((Ext.refl w2).alloc (.cells #[.slice ta T.length tc] 27))
    refine (of_calls (.slice ta T.length tc) T _ (hTw.out.ext hq0.out)).mono ?_
    rw [hof'.out]
    rintro e w3 ⟨lv, rfl, hlv, hx⟩
    obtain ⟨la, lc, rfl⟩ := hlv.form
    have hL := Lib.hid hlv
    have hB : Hid (Blk w3 w2.heap.size 27 #[.slice ta T.length tc]) := Lib.hid ((Keep.of_ext (X := fun _ => False) hx).blk (blk_new' rfl rfl) id)
    have hq := hq0.out.trans hx
    clear hlv hx hq0
    replace hTw := Lib.hid (hTw.out.ext hq)
    replace hTb := Lib.hid (hTb.out.ext hq)
    replace hE := Lib.hid (hE.out.trans hq)
    clear hq
    have b0 : w3.cell? ⟨w2.heap.size, 0, none⟩ = some (.slice ta T.length tc) := hB.out.cell 0
    have bl := hB.out.lt
    go_wp2_with fail
    refine (best_calls (.slice ta T.length tc) T w3 hTw.out (fun _ => small_tree hs'.out)).mono ?_
    intro e w4 hb
    obtain ⟨pA, pN, pC, q, cv, rfl, hq, _⟩ := best_stand hv'.out hb
    rw [hst0.out]
    clear hb b0 bl
    (try replace hRw := Lib.hid (hRw.out.ext hq))
    (try replace hTw := Lib.hid (hTw.out.ext hq))
    (try replace hL := Lib.hid (hL.out.ext hq))
    (try replace hS := Lib.hid (hS.out.ext hq))
    (try replace hS2 := Lib.hid (hS2.out.ext hq))
    (try replace hA := Lib.hid (hA.out.ext hq))
    (try replace hC := Lib.hid (hC.out.ext hq))
    (try replace hN := Lib.hid (hN.out.ext hq))
    (try replace hTb := Lib.hid (hTb.out.ext hq))
    (try replace hB := Lib.hid ((Keep.of_ext (X := fun _ => False) hq).blk hB.out id))
    (try replace hX := Lib.hid ((Keep.of_ext (X := fun _ => False) hq).blk hX.out id))
    replace hE := Lib.hid (hE.out.trans hq)
    clear hq
    rw [show (if true = true then (0 : Int) else 4) = 0 from rfl]
    go_wp2
    go_ret
    exact ⟨rfl, hE.out.alloc _⟩
  | false =>
    obtain ⟨L, hof, hLs, hLc⟩ := of_core hs hv hst
    have hof' := Lib.hid hof
    have hst0 := Lib.hid hst
    have hL2 := hLc.two hs hLs
    have hL6 : L.length ≤ 6 := by have := up_len hLs; omega
    have hstL : Hid (StandsT T L = (false, 0)) := Lib.hid (by rw [StandsT_sel hs hv hLs, hLc.1])
    have hsel : Hid (selB T.length (-1) L = true) := Lib.hid (selB_iff.2 hLs)
    have hrest : Hid (∀ k, k < L.length → StandsT T (L.eraseIdx k) = (true, 0)) := Lib.hid fun k hk => by
      rw [StandsT_sel hs hv ((List.eraseIdx_sublist L k).trans hLs), hLc.2 k hk]
    clear hs hv hst hof hLs hLc
    go_enter Tryz.func10, Tryz.ntmps10
    go_wp2_with fail
    refine (sanity34_calls _ (hTb.out.ext (by exact (by repeat' (first | (with_reducible exact Ext.refl _) | (with_reducible assumption) | (with_reducible refine Ext.drewN ?_ _) | (with_reducible refine Ext.drew ?_) | (with_reducible refine Ext.alloc ?_ _) | (with_reducible refine Ext.trans ?_ (by with_reducible assumption))))))).mono ?_
    rintro e w1 ⟨rfl, hx⟩
    have hE := Lib.hid (show Ext w w1 from Ext.trans (by exact (by repeat' (first | (with_reducible exact Ext.refl _) | (with_reducible assumption) | (with_reducible refine Ext.drewN ?_ _) | (with_reducible refine Ext.drew ?_) | (with_reducible refine Ext.alloc ?_ _) | (with_reducible refine Ext.trans ?_ (by with_reducible assumption))))) hx)
    replace hTb := Lib.hid (hTb.out.ext hE.out)
    replace hRw := Lib.hid (hRw.out.ext hE.out)
    clear hx
    go_wp2_with fail
    refine (made34_calls _ l w1 hRw.out).mono ?_
    rw [hTd.out]
    rintro e w2 ⟨tv, rfl, ht, hq⟩
    have ht2 := ht.read
    obtain ⟨ta, tc, rfl⟩ := ht2.form
    have hTw := Lib.hid ht2
    replace hTb := Lib.hid (hTb.out.ext hq)
    replace hE := Lib.hid (hE.out.trans hq)
    (try replace hX := Lib.hid ((Keep.of_ext (X := fun _ => False) hq).blk hX.out id))
    clear ht ht2 hq hRw
    go_wp2_with fail
    have hq0 := Lib.hid ((Ext.refl w2).alloc (.cells #[.slice ta T.length tc] 27))
    refine (of_calls (.slice ta T.length tc) T _ (hTw.out.ext hq0.out)).mono ?_
    rw [hof'.out]
    rintro e w3 ⟨lv, rfl, hlv, hx⟩
    obtain ⟨la, lc, rfl⟩ := hlv.form
    have hL := Lib.hid hlv
    have hB : Hid (Blk w3 w2.heap.size 27 #[.slice ta T.length tc]) := Lib.hid ((Keep.of_ext (X := fun _ => False) hx).blk (blk_new' rfl rfl) id)
    have hq := hq0.out.trans hx
    clear hlv hx hq0
    replace hTw := Lib.hid (hTw.out.ext hq)
    replace hTb := Lib.hid (hTb.out.ext hq)
    replace hE := Lib.hid (hE.out.trans hq)
    clear hq
    have b0 : w3.cell? ⟨w2.heap.size, 0, none⟩ = some (.slice ta T.length tc) := hB.out.cell 0
    have bl := hB.out.lt
    go_wp2_with fail
    refine (best_calls (.slice ta T.length tc) T w3 hTw.out (fun _ => small_tree hs'.out)).mono ?_
    intro e w4 hb
    obtain ⟨pA, pN, pC, q, cv, rfl, hq, _⟩ := best_stand hv'.out hb
    rw [hst0.out]
    clear hb b0 bl
    (try replace hRw := Lib.hid (hRw.out.ext hq))
    (try replace hTw := Lib.hid (hTw.out.ext hq))
    (try replace hL := Lib.hid (hL.out.ext hq))
    (try replace hS := Lib.hid (hS.out.ext hq))
    (try replace hS2 := Lib.hid (hS2.out.ext hq))
    (try replace hA := Lib.hid (hA.out.ext hq))
    (try replace hC := Lib.hid (hC.out.ext hq))
    (try replace hN := Lib.hid (hN.out.ext hq))
    (try replace hTb := Lib.hid (hTb.out.ext hq))
    (try replace hB := Lib.hid ((Keep.of_ext (X := fun _ => False) hq).blk hB.out id))
    (try replace hX := Lib.hid ((Keep.of_ext (X := fun _ => False) hq).blk hX.out id))
    replace hE := Lib.hid (hE.out.trans hq)
    clear hq
    rw [show (if false = true then (0 : Int) else 4) = 4 from rfl]
    have d2 : decide ((L.length : Int) < 2) = false := decide_eq_false (by omega)
    have b0 : w4.cell? ⟨w2.heap.size, 0, none⟩ = some (.slice ta T.length tc) := hB.out.cell 0
    have bl := hB.out.lt
    go_wp2_with fail
    have hq0 := Lib.hid ((Ext.refl w4).alloc (.cells #[.slice pA pN pC, .int .i64 q] 64))
    refine (Stands_calls (.slice ta T.length tc) (.slice la L.length lc) T L _ (hTw.out.ext hq0.out) (hL.out.ext hq0.out)).mono ?_
    rw [hstL.out]
    rintro e w5 ⟨rfl, hx⟩
    have hq := hq0.out.trans hx
    clear hx hq0 b0 bl
    (try replace hRw := Lib.hid (hRw.out.ext hq))
    (try replace hTw := Lib.hid (hTw.out.ext hq))
    (try replace hL := Lib.hid (hL.out.ext hq))
    (try replace hS := Lib.hid (hS.out.ext hq))
    (try replace hS2 := Lib.hid (hS2.out.ext hq))
    (try replace hA := Lib.hid (hA.out.ext hq))
    (try replace hC := Lib.hid (hC.out.ext hq))
    (try replace hN := Lib.hid (hN.out.ext hq))
    (try replace hTb := Lib.hid (hTb.out.ext hq))
    (try replace hB := Lib.hid ((Keep.of_ext (X := fun _ => False) hq).blk hB.out id))
    (try replace hX := Lib.hid ((Keep.of_ext (X := fun _ => False) hq).blk hX.out id))
    replace hE := Lib.hid (hE.out.trans hq)
    clear hq
    have b0 : w5.cell? ⟨w2.heap.size, 0, none⟩ = some (.slice ta T.length tc) := hB.out.cell 0
    have bl := hB.out.lt
    go_wp2_with fail
    refine (rSelection_calls (.slice ta T.length tc) (.slice la L.length lc) T L w5 hTw.out hL.out).mono ?_
    rw [hsel.out]
    rintro e w6 ⟨rfl, hq⟩
    clear b0 bl
    (try replace hRw := Lib.hid (hRw.out.ext hq))
    (try replace hTw := Lib.hid (hTw.out.ext hq))
    (try replace hL := Lib.hid (hL.out.ext hq))
    (try replace hS := Lib.hid (hS.out.ext hq))
    (try replace hS2 := Lib.hid (hS2.out.ext hq))
    (try replace hA := Lib.hid (hA.out.ext hq))
    (try replace hC := Lib.hid (hC.out.ext hq))
    (try replace hN := Lib.hid (hN.out.ext hq))
    (try replace hTb := Lib.hid (hTb.out.ext hq))
    (try replace hB := Lib.hid ((Keep.of_ext (X := fun _ => False) hq).blk hB.out id))
    (try replace hX := Lib.hid ((Keep.of_ext (X := fun _ => False) hq).blk hX.out id))
    replace hE := Lib.hid (hE.out.trans hq)
    clear hq
    clear hsel hstL hof' hst0 hs' hv' hTd d2
    go_wp2_with fail
    go_loopw [13] (fun vi wr => ∃ (i : Nat), i ≤ L.length ∧ vi = .int .i64 i ∧ Hid (Blk wr w2.heap.size 27 #[.slice ta T.length tc]) ∧ Hid (Ext w6 wr)) (fun vi _ => L.length - (intOf vi).toNat)
    case atStart => exact ⟨0, Nat.zero_le _, rfl, hB, Lib.hid (Ext.refl _)⟩
    case round =>
      obtain ⟨i, hi, rfl, hBr, hx⟩ := hrel
      by_cases h1 : i < L.length
      · obtain ⟨M, hM⟩ : ∃ M, Hid (L.eraseIdx i = M) := ⟨_, rfl⟩
        obtain ⟨qr, hqr⟩ : ∃ b, Hid (b = true) := ⟨true, rfl⟩
        have hq : Hid (StandsT T M = (qr, 0)) := Lib.hid (by rw [← hM.out, hqr.out]; exact hrest.out i h1)
        go_upto_region 15 with (fail)
        have z0 := After.cell (show wr.cell? ⟨w2.heap.size, 0, none⟩ = some (.slice ta T.length tc) from hBr.out.cell 0)
        (refine wp_region_held [] [0, 1, 2, 3, 4, 5, 6, 7, 8, 9] [] (CkCon M qr 0) (by kernel_rfl) (by kernel_rfl) ?_; simp only [pickL]; with_reducible refine wpQuiet_nil ?_)
        (refine held_quiet [0, 1, 2] [3, 4, 5, 6, 7, 8, 9] (by kernel_rfl) (by kernel_rfl) ?_; simp only [pickL, List.drop]; (repeat (go_big_quiet_step (fail))); with_reducible refine wpQuiet_nil ?_)
        (refine held_call 3 [4, 5, 6, 7, 8, 9] rfl (by kernel_rfl) 32 (#[.slice la L.length lc, .int .i64 (i : Int)]) (fun W => by kernel_rfl) rfl ?_ ?_ ?_)
        · exact fun W W' v e hh => ⟨fun h => (hh.1 h).ext e, hh.2⟩
        · refine fun W hW _ => (rWithout_calls _ L i W (hL.out.ext (hx.out.trans hW)) (by omega)).mono ?_
          rw [hM.out]
          rintro e W' ⟨v, rfl, hv, hxx⟩
          exact ⟨_, rfl, hxx, ⟨fun _ => hv.read, (fun h => by cases h)⟩⟩
        rintro v ⟨Y, hY, hCv⟩
        obtain ⟨mA, mC, rfl⟩ := (hCv.1 rfl).form
        clear hCv hY Y
        simp only [Act.put, List.setIfInBounds_toArray, List.set_cons_succ, List.set_cons_zero]
        (refine held_call 4 [5, 6, 7, 8, 9] rfl (by kernel_rfl) 18 (#[.agg #[.slice ta T.length tc], .slice mA M.length mC]) (fun W => by kernel_rfl) rfl ?_ ?_ ?_)
        · exact fun W W' v e hh => ⟨fun h => (hh.1 h).ext e, hh.2⟩
        · refine fun W hW hD => (Stands_calls _ _ T M W (hTw.out.ext (hx.out.trans hW)) (((hD 3 (dep_of 10 4 3 (by kernel_rfl))).2 rfl).1 rfl)).mono ?_
          rw [hq.out]
          rintro e W' ⟨rfl, hxx⟩
          exact ⟨_, rfl, hxx, ⟨(fun h => by cases h), fun _ => rfl⟩⟩
        rintro v ⟨Y, hY, hCv⟩
        obtain rfl := hCv.2 rfl
        clear hCv hY Y
        simp only [Act.put, List.setIfInBounds_toArray, List.set_cons_succ, List.set_cons_zero]
        (refine held_quiet [5, 6, 7, 8, 9] [] (by kernel_rfl) (by kernel_rfl) ?_; simp only [pickL, List.drop]; (repeat (go_big_quiet_step (fail))); with_reducible refine wpQuiet_nil ?_)
        intro w9 hx9 hfc htk Q0 hQ0
        simp only [pickL]
        have hB9 := Lib.hid ((Keep.of_ext (X := fun _ => False) hx9).blk hBr.out id)
        have hx9' := Lib.hid (hx.out.trans hx9)
        clear hfc htk z0 hx9 hBr hx hq hM
        refine hQ0 _ _ ?_
        clear hQ0 Q0
        rw [hqr.out]
        clear hqr
        go_wp2
        go_roundw
        case rel => exact ⟨i + 1, h1, by go_num, hB9, hx9'⟩
        case measure => simp [intOf]; omega
      · go_wp2
        go_ret
        exact ⟨rfl, hE.out.trans hx.out⟩
end Go.Proofs.YtcpohkigbaechaaGreatDoor
