/- The law CoreAll, walked: true for every list of raw wishes and every number. -/
import Derived.Test.YtcpohkigbaechaaGreatDoorUG
import Derived.Test.YtcpohkigbaechaaGreatDoorUD
namespace Go.Proofs.YtcpohkigbaechaaGreatDoor
open Go.RowKit Go.Shelf List

set_option maxHeartbeats 6400000 in
set_option maxRecDepth 100000 in
theorem coreAll_calls (va : Value) (l : List RawD) (n : Int) (hn0 : 0 ≤ n) (hn1 : n ≤ 255) (w : World) (hl : Raws w va l) (hTab : Tab10 w) :
    Calls Tryz.prog 7 #[va, .int .u8 n] w fun e w' => e = .returned (.bool true) ∧ Ext w w' := by
  have hok := hl.ok
  obtain ⟨T, hTd⟩ : ∃ T, Hid (made34 l = T) := ⟨_, rfl⟩
  have hs : SmallT T := hTd.out ▸ made34_small hok
  have hv : validT T = 0 := hTd.out ▸ made34_valid hok
  have hlen : 0 < T.length ∧ T.length ≤ 6 := hTd.out ▸ made34_len (l := l)
  obtain ⟨hlen0, hlen6⟩ := hlen
  have hs' := Lib.hid hs
  have hv' := Lib.hid hv
  have hRw := Lib.hid hl
  have hTb := Lib.hid hTab
  obtain ⟨lA, lC, rfl, _, _, _⟩ := hl.open
  obtain ⟨L, hof, hL1, hL2⟩ := of_is hs hv
  obtain ⟨S, hSd⟩ : ∃ S, Hid (peopleTo n T.length = S) := ⟨_, rfl⟩
  have hSs : Hid (S <+ upI T.length) := Lib.hid (hSd.out ▸ peopleTo_sub n T.length)
  obtain ⟨q, hqd⟩ : ∃ q, Hid (selSt T S = q) := ⟨_, rfl⟩
  have hst : Hid (StandsT T S = (q, 0)) := Lib.hid (by rw [StandsT_sel hs hv hSs.out, hqd.out])
  obtain ⟨A, hAd⟩ : ∃ A, Hid (allC T = A) := ⟨_, rfl⟩
  obtain ⟨m, hm⟩ : ∃ m, Hid (A.length = m) := ⟨_, rfl⟩
  obtain ⟨ok, hokd⟩ : ∃ ok, Hid ((!standB T) = ok) := ⟨_, rfl⟩
  have hof' : Hid (ofT T = (L, ok, 0)) := Lib.hid (by rw [hof, hokd.out])
  have hqf : Hid (q = !(A.any fun c => c.isSublist S)) := Lib.hid (by rw [← hqd.out, ← hAd.out]; exact stands_none hSs.out)
  have hfin : Hid ((!ok || A.any fun c => decide (c = L)) = true) := Lib.hid (by
    rw [← hokd.out]
    cases hb : standB T with
    | true => rfl
    | false =>
      have := hL2 hb
      rw [hAd.out] at this
      simp [this])
  have dm : (!(ok == decide (0 < m))) = false := by
    rw [← hokd.out, ← hm.out, ← hAd.out]
    cases hb : standB T with
    | true => rw [allC_none.2 hb]; rfl
    | false =>
      have : allC T ≠ [] := fun e => by rw [allC_none] at e; rw [hb] at e; cases e
      have := List.length_pos_iff.2 this
      simp
      omega
  have hap : Hid (∀ (i k : Nat) (a b : List Int), A[i]? = some a → A[k]? = some b → i ≠ k → b.isSublist a = false) := Lib.hid fun i k a b ha hb hik => by
    rw [← hAd.out] at ha hb
    have := allC_apart ha hb hik
    rw [← List.isSublist_iff_sublist, Bool.not_eq_true] at this
    exact this
  clear hok hof hL1 hL2 hl hTab hs hv hokd hqd
  go_enter Tryz.func7, Tryz.ntmps7
  go_wp2_with fail
  refine (sanity34_calls _ (hTb.out.ext (by exact (by repeat' (first | (with_reducible exact Ext.refl _) | (with_reducible assumption) | (with_reducible refine Ext.drewN ?_ _) | (with_reducible refine Ext.drew ?_) | (with_reducible refine Ext.alloc ?_ _) | (with_reducible refine Ext.trans ?_ (by with_reducible assumption))))))).mono ?_
  rintro e w1 ⟨rfl, hx⟩
  have hE := Lib.hid (show Ext w w1 from Ext.trans (by exact (by repeat' (first | (with_reducible exact Ext.refl _) | (with_reducible assumption) | (with_reducible refine Ext.drewN ?_ _) | (with_reducible refine Ext.drew ?_) | (with_reducible refine Ext.alloc ?_ _) | (with_reducible refine Ext.trans ?_ (by with_reducible assumption))))) hx)
  replace hTb := Lib.hid (hTb.out.ext hE.out)
  replace hRw := Lib.hid (hRw.out.ext hE.out)
  clear hx
  go_wp2_with fail
  refine (made34_calls _ l w1 hRw.out).mono ?_
  rw [hTd.out]
  rintro e w2 ⟨tv, rfl, ht, hq⟩
  have ht2 := ht.read
  obtain ⟨ta, tc, rfl⟩ := ht2.form
  have hTw := Lib.hid ht2
  replace hTb := Lib.hid (hTb.out.ext hq)
  replace hE := Lib.hid (hE.out.trans hq)
  (try replace hX := Lib.hid ((Keep.of_ext (X := fun _ => False) hq).blk hX.out id))
  clear ht ht2 hq hRw
  go_wp2_with fail
  have hq0 := Lib.hid ((Ext.refl w2).alloc (.cells #[.slice ta T.length tc] 27))
  refine (all_calls (.slice ta T.length tc) T _ (hTw.out.ext hq0.out) hs'.out hv'.out).mono ?_
  rw [show (sels T.length).filter (coreB T) = A from hAd.out]
  rintro e w3 ⟨av, rfl, ha, hx⟩
  obtain ⟨aa, ac, rfl⟩ := ha.form
  rw [hm.out] at ha ⊢
  have hA := Lib.hid ha
  have hB : Hid (Blk w3 w2.heap.size 27 #[.slice ta T.length tc]) := Lib.hid ((Keep.of_ext (X := fun _ => False) hx).blk (blk_new' rfl rfl) id)
  have hq := hq0.out.trans hx
  clear ha hx hq0
  replace hTw := Lib.hid (hTw.out.ext hq)
  replace hTb := Lib.hid (hTb.out.ext hq)
  replace hE := Lib.hid (hE.out.trans hq)
  clear hq
  have b0 : w3.cell? ⟨w2.heap.size, 0, none⟩ = some (.slice ta T.length tc) := hB.out.cell 0
  have bl := hB.out.lt
  go_wp2_with fail
  refine (of_calls (.slice ta T.length tc) T w3 hTw.out).mono ?_
  rw [hof'.out]
  rintro e w4 ⟨lv, rfl, hlv, hq⟩
  obtain ⟨la, lc, rfl⟩ := hlv.form
  clear b0 bl
  (try replace hRw := Lib.hid (hRw.out.ext hq))
  (try replace hTw := Lib.hid (hTw.out.ext hq))
  (try replace hL := Lib.hid (hL.out.ext hq))
  (try replace hS := Lib.hid (hS.out.ext hq))
  (try replace hS2 := Lib.hid (hS2.out.ext hq))
  (try replace hA := Lib.hid (hA.out.ext hq))
  (try replace hC := Lib.hid (hC.out.ext hq))
  (try replace hN := Lib.hid (hN.out.ext hq))
  (try replace hTb := Lib.hid (hTb.out.ext hq))
  (try replace hB := Lib.hid ((Keep.of_ext (X := fun _ => False) hq).blk hB.out id))
  (try replace hX := Lib.hid ((Keep.of_ext (X := fun _ => False) hq).blk hX.out id))
  replace hE := Lib.hid (hE.out.trans hq)
  clear hq
  have hL := Lib.hid hlv
  clear hlv
  have b0 : w4.cell? ⟨w2.heap.size, 0, none⟩ = some (.slice ta T.length tc) := hB.out.cell 0
  have bl := hB.out.lt
  go_wp2_with fail
  refine (selection_calls (.slice ta T.length tc) T n w4 hTw.out ⟨hn0, hn1⟩ hlen6).mono ?_
  rw [hSd.out]
  rintro e w5 ⟨sv, rfl, hsv, hq⟩
  obtain ⟨sa, sc, rfl⟩ := owns_form hsv
  clear b0 bl
  (try replace hRw := Lib.hid (hRw.out.ext hq))
  (try replace hTw := Lib.hid (hTw.out.ext hq))
  (try replace hL := Lib.hid (hL.out.ext hq))
  (try replace hS := Lib.hid (hS.out.ext hq))
  (try replace hS2 := Lib.hid (hS2.out.ext hq))
  (try replace hA := Lib.hid (hA.out.ext hq))
  (try replace hC := Lib.hid (hC.out.ext hq))
  (try replace hN := Lib.hid (hN.out.ext hq))
  (try replace hTb := Lib.hid (hTb.out.ext hq))
  (try replace hB := Lib.hid ((Keep.of_ext (X := fun _ => False) hq).blk hB.out id))
  (try replace hX := Lib.hid ((Keep.of_ext (X := fun _ => False) hq).blk hX.out id))
  replace hE := Lib.hid (hE.out.trans hq)
  clear hq
  have hS := Lib.hid hsv.read
  clear hsv
  have b0 : w5.cell? ⟨w2.heap.size, 0, none⟩ = some (.slice ta T.length tc) := hB.out.cell 0
  have bl := hB.out.lt
  go_wp2_with fail
  refine (Stands_calls (.slice ta T.length tc) (.slice sa S.length sc) T S w5 hTw.out hS.out).mono ?_
  rw [hst.out]
  rintro e w6 ⟨rfl, hq⟩
  clear b0 bl
  (try replace hRw := Lib.hid (hRw.out.ext hq))
  (try replace hTw := Lib.hid (hTw.out.ext hq))
  (try replace hL := Lib.hid (hL.out.ext hq))
  (try replace hS := Lib.hid (hS.out.ext hq))
  (try replace hS2 := Lib.hid (hS2.out.ext hq))
  (try replace hA := Lib.hid (hA.out.ext hq))
  (try replace hC := Lib.hid (hC.out.ext hq))
  (try replace hN := Lib.hid (hN.out.ext hq))
  (try replace hTb := Lib.hid (hTb.out.ext hq))
  (try replace hB := Lib.hid ((Keep.of_ext (X := fun _ => False) hq).blk hB.out id))
  (try replace hX := Lib.hid ((Keep.of_ext (X := fun _ => False) hq).blk hX.out id))
  replace hE := Lib.hid (hE.out.trans hq)
  clear hq
  obtain ⟨aa', ac', e, hAn, hAc, hAat0⟩ := hA.out.open
  rw [hm.out] at e hAn
  cases e
  have hAat := Lib.hid hAat0
  clear hAat0 hA hTw hTb hB hst hof' hs' hv' hTd
  go_wp2_with fail
  go_loopw [15, 16, 17] (fun vf vin vi wr => ∃ (i : Nat) (fb ib : Bool), i ≤ m ∧ vf = .bool fb ∧ vin = .bool ib ∧ vi = .int .i64 i ∧ Hid (fb = (!ok || (A.take i).any fun c => decide (c = L))) ∧ Hid (ib = (A.take i).any fun c => c.isSublist S) ∧ Hid (Ext w6 wr)) (fun _ _ vi _ => m - (intOf vi).toNat)
  case atStart => exact ⟨0, !ok, false, Nat.zero_le _, rfl, rfl, rfl, Lib.hid (by simp), Lib.hid (by simp), Lib.hid (Ext.refl _)⟩
  case round =>
    obtain ⟨i, fb, ib, hi, rfl, rfl, rfl, hf, hin, hx⟩ := hrel
    by_cases i1 : i < m
    · obtain ⟨b1, o1, r, ra, rc, rfl, hb1, er, g1, gr⟩ := hAat.out i (by rw [hm.out]; exact i1) wr hx.out
      have gr' := Lib.hid gr
      have hcl1 : Hid (∀ W, Ext wr W → Calls Tryz.prog 21 #[.slice ra r.length rc, .slice la L.length lc] W fun e w' => e = .returned (.bool (decide (r = L))) ∧ Ext W w') := Lib.hid fun W hW => rNumbers34_calls _ _ r L W (gr'.out.ext hW) (hL.out.ext (hx.out.trans hW))
      have hcl0 : Hid (∀ W, Ext wr W → Calls Tryz.prog 33 #[.slice sa S.length sc, .slice ra r.length rc] W fun e w' => e = .returned (.bool (r.isSublist S)) ∧ Ext W w') := Lib.hid fun W hW => contains34_calls _ _ S r W (hS.out.ext (hx.out.trans hW)) (gr'.out.ext hW)
      have htk : Hid (A.take (i + 1) = A.take i ++ [r]) := Lib.hid (by rw [List.take_add_one, er.out]; rfl)
      obtain ⟨dr, hdr⟩ : ∃ d, Hid (decide (r = L) = d) := ⟨_, rfl⟩
      obtain ⟨ds, hds⟩ : ∃ d, Hid (r.isSublist S = d) := ⟨_, rfl⟩
      rw [hdr.out] at hcl1
      rw [hds.out] at hcl0
      have hf2 : Hid ((fb || dr) = (!ok || (A.take (i + 1)).any fun c => decide (c = L))) := Lib.hid (by rw [htk.out, List.any_append, ← Bool.or_assoc, ← hf.out]; simp [hdr.out])
      have hin2 : Hid ((ib || ds) = (A.take (i + 1)).any fun c => c.isSublist S) := Lib.hid (by rw [htk.out, List.any_append, ← hin.out]; simp [hds.out])
      clear gr hf hin htk hdr hds
      cases fb with
      | true =>
        cases ib with
        | true =>
          have hwq : Hid (Ext wr wr) := Lib.hid (Ext.refl _)
          have hxq := hx
          clear hcl0 hcl1
          go_wp2_with fail
          go_loopw [18] (fun vk wr2 => ∃ k : Nat, k ≤ m ∧ vk = .int .i64 k ∧ Hid (Ext wr wr2)) (fun vk _ => m - (intOf vk).toNat)
          case atStart => exact ⟨0, Nat.zero_le _, rfl, Lib.hid (Ext.refl _)⟩
          case round =>
            rename World => wr2
            obtain ⟨k, hk, rfl, hx2⟩ := hrel
            by_cases k1 : k < m
            · obtain ⟨b3, o3, c, ca, cc, e3, hb3, ec, g2, gc⟩ := hAat.out k (by rw [hm.out]; exact k1) wr2 (hxq.out.trans hx2.out)
              cases e3
              by_cases hik : i = k
              · have d0 : ((i : Int) != (k : Int)) = false := by rw [hik]; simp
                clear hik g2 gc ec
                go_upto_region 19 with (fail)
                refine wp_region_after (by kernel_rfl) (by kernel_rfl) ?_
                repeat (go_big_quiet_step (fail))
                refine wpQuiet_nil ?_
                rintro _ ⟨u, rfl⟩
                have hu := Lib.hid (hx2.out.trans u.ext)
                generalize u.world = V at hu ⊢
                go_wp2
                go_roundw
                case rel => exact ⟨k + 1, k1, by go_num, hu⟩
                case measure => simp [intOf]; omega
              · have d0 : ((i : Int) != (k : Int)) = true := by simp; omega
                have hno := Lib.hid (hap.out i k r c er.out ec.out hik)
                have hcl2 : Hid (∀ W, Ext wr2 W → Calls Tryz.prog 33 #[.slice ra r.length rc, .slice ca c.length cc] W fun e w' => e = .returned (.bool false) ∧ Ext W w') := Lib.hid fun W hW => by
                  have := contains34_calls (.slice ra r.length rc) (.slice ca c.length cc) r c W (gr'.out.ext (hwq.out.trans (hx2.out.trans hW))) (gc.ext hW)
                  rwa [hno.out] at this
                have z1 := After.cell (hx2.out.cell (hwq.out.cell g1))
                have z2 := After.cell g2
                clear hik hno g2 gc ec
                go_upto_region 19 with (fail)
                refine wp_region_after (by kernel_rfl) (by kernel_rfl) ?_
                repeat (go_big_quiet_step (exact After.call _ (hcl2.out _ (After.ext _))))
                refine wpQuiet_nil ?_
                rintro _ ⟨u, rfl⟩
                have hu := Lib.hid (hx2.out.trans u.ext)
                generalize u.world = V at hu ⊢
                clear z1 z2 hcl2
                go_wp2
                go_roundw
                case rel => exact ⟨k + 1, k1, by go_num, hu⟩
                case measure => simp [intOf]; omega
            · have hx9 := Lib.hid (hxq.out.trans hx2.out)
              clear g1
              go_wp2
              go_roundw
              case rel => first | exact ⟨i + 1, _, _, i1, rfl, rfl, by go_num, hf2, hin2, hx9⟩ | ((repeat apply Exists.intro); exact ⟨⟨i + 1, _, _, i1, rfl, rfl, by go_num, hf2, hin2, hx9⟩, rfl⟩)
              case measure => simp [intOf]; omega
        | false =>
          clear hcl1
          go_wp2_with fail
          refine (hcl0.out wr (Ext.refl _)).mono ?_
          rintro e wq ⟨rfl, hxb⟩
          have hwq : Hid (Ext wr wq) := Lib.hid hxb
          have hxq := Lib.hid (hx.out.trans hxb)
          clear hcl0 hxb
          go_wp2_with fail
          go_loopw [18] (fun vk wr2 => ∃ k : Nat, k ≤ m ∧ vk = .int .i64 k ∧ Hid (Ext wq wr2)) (fun vk _ => m - (intOf vk).toNat)
          case atStart => exact ⟨0, Nat.zero_le _, rfl, Lib.hid (Ext.refl _)⟩
          case round =>
            rename World => wr2
            obtain ⟨k, hk, rfl, hx2⟩ := hrel
            by_cases k1 : k < m
            · obtain ⟨b3, o3, c, ca, cc, e3, hb3, ec, g2, gc⟩ := hAat.out k (by rw [hm.out]; exact k1) wr2 (hxq.out.trans hx2.out)
              cases e3
              by_cases hik : i = k
              · have d0 : ((i : Int) != (k : Int)) = false := by rw [hik]; simp
                clear hik g2 gc ec
                go_upto_region 19 with (fail)
                refine wp_region_after (by kernel_rfl) (by kernel_rfl) ?_
                repeat (go_big_quiet_step (fail))
                refine wpQuiet_nil ?_
                rintro _ ⟨u, rfl⟩
                have hu := Lib.hid (hx2.out.trans u.ext)
                generalize u.world = V at hu ⊢
                go_wp2
                go_roundw
                case rel => exact ⟨k + 1, k1, by go_num, hu⟩
                case measure => simp [intOf]; omega
              · have d0 : ((i : Int) != (k : Int)) = true := by simp; omega
                have hno := Lib.hid (hap.out i k r c er.out ec.out hik)
                have hcl2 : Hid (∀ W, Ext wr2 W → Calls Tryz.prog 33 #[.slice ra r.length rc, .slice ca c.length cc] W fun e w' => e = .returned (.bool false) ∧ Ext W w') := Lib.hid fun W hW => by
                  have := contains34_calls (.slice ra r.length rc) (.slice ca c.length cc) r c W (gr'.out.ext (hwq.out.trans (hx2.out.trans hW))) (gc.ext hW)
                  rwa [hno.out] at this
                have z1 := After.cell (hx2.out.cell (hwq.out.cell g1))
                have z2 := After.cell g2
                clear hik hno g2 gc ec
                go_upto_region 19 with (fail)
                refine wp_region_after (by kernel_rfl) (by kernel_rfl) ?_
                repeat (go_big_quiet_step (exact After.call _ (hcl2.out _ (After.ext _))))
                refine wpQuiet_nil ?_
                rintro _ ⟨u, rfl⟩
                have hu := Lib.hid (hx2.out.trans u.ext)
                generalize u.world = V at hu ⊢
                clear z1 z2 hcl2
                go_wp2
                go_roundw
                case rel => exact ⟨k + 1, k1, by go_num, hu⟩
                case measure => simp [intOf]; omega
            · have hx9 := Lib.hid (hxq.out.trans hx2.out)
              clear g1
              go_wp2
              go_roundw
              case rel => first | exact ⟨i + 1, _, _, i1, rfl, rfl, by go_num, hf2, hin2, hx9⟩ | ((repeat apply Exists.intro); exact ⟨⟨i + 1, _, _, i1, rfl, rfl, by go_num, hf2, hin2, hx9⟩, rfl⟩)
              case measure => simp [intOf]; omega
      | false =>
        go_wp2_with fail
        refine (hcl1.out wr (Ext.refl _)).mono ?_
        rintro e wa ⟨rfl, hxa⟩
        have g1a := hxa.cell g1
        cases ib with
        | true =>
          have hwq : Hid (Ext wr wa) := Lib.hid hxa
          have hxq := Lib.hid (hx.out.trans hxa)
          clear hcl0 hcl1 hxa
          go_wp2_with fail
          go_loopw [18] (fun vk wr2 => ∃ k : Nat, k ≤ m ∧ vk = .int .i64 k ∧ Hid (Ext wa wr2)) (fun vk _ => m - (intOf vk).toNat)
          case atStart => exact ⟨0, Nat.zero_le _, rfl, Lib.hid (Ext.refl _)⟩
          case round =>
            rename World => wr2
            obtain ⟨k, hk, rfl, hx2⟩ := hrel
            by_cases k1 : k < m
            · obtain ⟨b3, o3, c, ca, cc, e3, hb3, ec, g2, gc⟩ := hAat.out k (by rw [hm.out]; exact k1) wr2 (hxq.out.trans hx2.out)
              cases e3
              by_cases hik : i = k
              · have d0 : ((i : Int) != (k : Int)) = false := by rw [hik]; simp
                clear hik g2 gc ec
                go_upto_region 19 with (fail)
                refine wp_region_after (by kernel_rfl) (by kernel_rfl) ?_
                repeat (go_big_quiet_step (fail))
                refine wpQuiet_nil ?_
                rintro _ ⟨u, rfl⟩
                have hu := Lib.hid (hx2.out.trans u.ext)
                generalize u.world = V at hu ⊢
                go_wp2
                go_roundw
                case rel => exact ⟨k + 1, k1, by go_num, hu⟩
                case measure => simp [intOf]; omega
              · have d0 : ((i : Int) != (k : Int)) = true := by simp; omega
                have hno := Lib.hid (hap.out i k r c er.out ec.out hik)
                have hcl2 : Hid (∀ W, Ext wr2 W → Calls Tryz.prog 33 #[.slice ra r.length rc, .slice ca c.length cc] W fun e w' => e = .returned (.bool false) ∧ Ext W w') := Lib.hid fun W hW => by
                  have := contains34_calls (.slice ra r.length rc) (.slice ca c.length cc) r c W (gr'.out.ext (hwq.out.trans (hx2.out.trans hW))) (gc.ext hW)
                  rwa [hno.out] at this
                have z1 := After.cell (hx2.out.cell (hwq.out.cell g1))
                have z2 := After.cell g2
                clear hik hno g2 gc ec
                go_upto_region 19 with (fail)
                refine wp_region_after (by kernel_rfl) (by kernel_rfl) ?_
                repeat (go_big_quiet_step (exact After.call _ (hcl2.out _ (After.ext _))))
                refine wpQuiet_nil ?_
                rintro _ ⟨u, rfl⟩
                have hu := Lib.hid (hx2.out.trans u.ext)
                generalize u.world = V at hu ⊢
                clear z1 z2 hcl2
                go_wp2
                go_roundw
                case rel => exact ⟨k + 1, k1, by go_num, hu⟩
                case measure => simp [intOf]; omega
            · have hx9 := Lib.hid (hxq.out.trans hx2.out)
              clear g1
              go_wp2
              go_roundw
              case rel => first | exact ⟨i + 1, _, _, i1, rfl, rfl, by go_num, hf2, hin2, hx9⟩ | ((repeat apply Exists.intro); exact ⟨⟨i + 1, _, _, i1, rfl, rfl, by go_num, hf2, hin2, hx9⟩, rfl⟩)
              case measure => simp [intOf]; omega
        | false =>
          go_wp2_with fail
          refine (hcl0.out wa hxa).mono ?_
          rintro e wq ⟨rfl, hxb⟩
          have hwq : Hid (Ext wr wq) := Lib.hid (hxa.trans hxb)
          have hxq := Lib.hid (hx.out.trans (hxa.trans hxb))
          clear hcl0 hcl1 hxa hxb g1a
          go_wp2_with fail
          go_loopw [18] (fun vk wr2 => ∃ k : Nat, k ≤ m ∧ vk = .int .i64 k ∧ Hid (Ext wq wr2)) (fun vk _ => m - (intOf vk).toNat)
          case atStart => exact ⟨0, Nat.zero_le _, rfl, Lib.hid (Ext.refl _)⟩
          case round =>
            rename World => wr2
            obtain ⟨k, hk, rfl, hx2⟩ := hrel
            by_cases k1 : k < m
            · obtain ⟨b3, o3, c, ca, cc, e3, hb3, ec, g2, gc⟩ := hAat.out k (by rw [hm.out]; exact k1) wr2 (hxq.out.trans hx2.out)
              cases e3
              by_cases hik : i = k
              · have d0 : ((i : Int) != (k : Int)) = false := by rw [hik]; simp
                clear hik g2 gc ec
                go_upto_region 19 with (fail)
                refine wp_region_after (by kernel_rfl) (by kernel_rfl) ?_
                repeat (go_big_quiet_step (fail))
                refine wpQuiet_nil ?_
                rintro _ ⟨u, rfl⟩
                have hu := Lib.hid (hx2.out.trans u.ext)
                generalize u.world = V at hu ⊢
                go_wp2
                go_roundw
                case rel => exact ⟨k + 1, k1, by go_num, hu⟩
                case measure => simp [intOf]; omega
              · have d0 : ((i : Int) != (k : Int)) = true := by simp; omega
                have hno := Lib.hid (hap.out i k r c er.out ec.out hik)
                have hcl2 : Hid (∀ W, Ext wr2 W → Calls Tryz.prog 33 #[.slice ra r.length rc, .slice ca c.length cc] W fun e w' => e = .returned (.bool false) ∧ Ext W w') := Lib.hid fun W hW => by
                  have := contains34_calls (.slice ra r.length rc) (.slice ca c.length cc) r c W (gr'.out.ext (hwq.out.trans (hx2.out.trans hW))) (gc.ext hW)
                  rwa [hno.out] at this
                have z1 := After.cell (hx2.out.cell (hwq.out.cell g1))
                have z2 := After.cell g2
                clear hik hno g2 gc ec
                go_upto_region 19 with (fail)
                refine wp_region_after (by kernel_rfl) (by kernel_rfl) ?_
                repeat (go_big_quiet_step (exact After.call _ (hcl2.out _ (After.ext _))))
                refine wpQuiet_nil ?_
                rintro _ ⟨u, rfl⟩
                have hu := Lib.hid (hx2.out.trans u.ext)
                generalize u.world = V at hu ⊢
                clear z1 z2 hcl2
                go_wp2
                go_roundw
                case rel => exact ⟨k + 1, k1, by go_num, hu⟩
                case measure => simp [intOf]; omega
            · have hx9 := Lib.hid (hxq.out.trans hx2.out)
              clear g1
              go_wp2
              go_roundw
              case rel => first | exact ⟨i + 1, _, _, i1, rfl, rfl, by go_num, hf2, hin2, hx9⟩ | ((repeat apply Exists.intro); exact ⟨⟨i + 1, _, _, i1, rfl, rfl, by go_num, hf2, hin2, hx9⟩, rfl⟩)
              case measure => simp [intOf]; omega
    · have hfb : Hid (fb = true) := Lib.hid (by have := hf.out; rwa [List.take_of_length_le (by rw [hm.out]; omega), hfin.out] at this)
      have hib : Hid ((q == !ib) = true) := Lib.hid (by
        have := hin.out
        rw [List.take_of_length_le (by rw [hm.out]; omega)] at this
        rw [hqf.out, ← this]
        simp)
      rw [hfb.out]
      clear hf hin
      have d9 := hib.out
      go_wp2
      go_ret
      exact ⟨rfl, hE.out.trans hx.out⟩
end Go.Proofs.YtcpohkigbaechaaGreatDoor
