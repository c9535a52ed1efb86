/- The law CoreProofs, walked: true for every list of raw wishes, every number and every certificate. -/
import Derived.Test.YtcpohkigbaechaaGreatDoorU3
import Derived.Test.YtcpohkigbaechaaGreatDoorUN
namespace Go.Proofs.YtcpohkigbaechaaGreatDoor
open Go.RowKit Go.Shelf List

theorem room_sel {t : List WishD} (hs : SmallT t) (hv : validT t = 0) {l : List Int} (hl : l <+ upI t.length) : ShowRoom t l := fun _ hne hst => by
  rw [hs.stands hl] at hst
  have h : selSt t l = false := congrArg Prod.fst hst
  exact ⟨hs.tree (up_idx hl) (Nat.le_trans (up_len hl) hs.len), grow_opens h _, grow_ests (subT_valid hv hl fun e => hne (by rw [e]; rfl))⟩
theorem show_kids {t : List WishD} (hs : SmallT t) {l : List Int} (hl : l <+ upI t.length) : ∀ n ∈ (growL (subT t l) 1000000000 (subT t l) [] 0 0).nodes, n.kids.length ≤ 17592186044416 := fun n hn => by
  have := growL_kids (subT t l) 1000000000 5 (subT t l) (fun x hx => (hs.opts x (subT_mem (up_idx hl) hx)).2) [] 0 0 n hn
  omega
set_option maxHeartbeats 12800000 in
set_option maxRecDepth 100000 in
theorem coreProofs_calls (va : Value) (l : List RawD) (n : Int) (hn0 : 0 ≤ n) (hn1 : n ≤ 255) (cv : Value) (c : List NodeD) (w : World) (hl : Raws w va l) (hcv : NodesK w cv c) (hTab : Tab10 w) :
    Calls Tryz.prog 6 #[va, .int .u8 n, cv] w fun e w' => e = .returned (.bool true) ∧ Ext w w' := by
  have hok := hl.ok
  obtain ⟨T, hTd⟩ : ∃ T, Hid (made34 l = T) := ⟨_, rfl⟩
  have hs : SmallT T := hTd.out ▸ made34_small hok
  have hv : validT T = 0 := hTd.out ▸ made34_valid hok
  have hlen : 0 < T.length ∧ T.length ≤ 6 := hTd.out ▸ made34_len (l := l)
  obtain ⟨hlen0, hlen6⟩ := hlen
  have hs' := Lib.hid hs
  have hv' := Lib.hid hv
  have hRw := Lib.hid hl
  have hTb := Lib.hid hTab
  obtain ⟨lA, lC, rfl, _, _, _⟩ := hl.open
  have hck := Lib.hid hcv.2
  have hC := Lib.hid hcv.1
  obtain ⟨ca, cc, rfl⟩ := hcv.1.form
  obtain ⟨S, hSd⟩ : ∃ S, Hid (peopleTo n T.length = S) := ⟨_, rfl⟩
  have hSs : Hid (S <+ upI T.length) := Lib.hid (hSd.out ▸ peopleTo_sub n T.length)
  obtain ⟨q, hqd⟩ : ∃ q, Hid (selSt T S = q) := ⟨_, rfl⟩
  have hst : Hid (StandsT T S = (q, 0)) := Lib.hid (by rw [StandsT_sel hs hv hSs.out, hqd.out])
  have hroomS := Lib.hid (room_sel hs hv hSs.out)
  obtain ⟨LB, hLB⟩ : ∃ b, Hid (((List.range S.length).all fun k => selSt T (S.eraseIdx k)) = b) := ⟨_, rfl⟩
  obtain ⟨N2, e2, hsh⟩ : ∃ N2 e2, Hid (showT T S = (N2, e2)) := ⟨_, _, rfl⟩
  have hc0 : Hid (S = [] → e2 = 1) := Lib.hid fun he => by
    have := hsh.out
    rw [he, show_empty hv] at this
    exact (congrArg Prod.snd this).symm
  have hc1 : Hid (S ≠ [] → q = true → N2 = [] ∧ e2 = 4 ∧ coreCheckT T S c ≠ 0) := Lib.hid fun hne hqt => by
    have h1 := hsh.out
    have h2 : selSt T S = true := hqd.out.trans hqt
    rw [show_stands hs hv hSs.out hne h2] at h1
    refine ⟨(congrArg Prod.fst h1).symm, (congrArg Prod.snd h1).symm, ?_⟩
    rw [coreCheck_is hs hv hSs.out hne]
    have := cert_stands hv hSs.out hne h2 c
    rw [if_neg this]
    exact this
  have hc2 : Hid (S ≠ [] → q = false → e2 = 0 ∧ (∀ n ∈ N2, n.kids.length ≤ 17592186044416) ∧ coreCheckT T S N2 = (if LB = true then 0 else 11) ∧ (LB = false → coreCheckT T S c ≠ 0)) := Lib.hid fun hne hqt => by
    have h1 := hsh.out
    have h2 : selSt T S = false := hqd.out.trans hqt
    rw [show_core hs hv hSs.out hne h2] at h1
    have h3 : (growL (subT T S) 1000000000 (subT T S) [] 0 0).nodes = N2 := congrArg Prod.fst h1
    refine ⟨(congrArg Prod.snd h1).symm, h3 ▸ show_kids hs hSs.out, ?_, fun hb => ?_⟩
    · rw [coreCheck_is hs hv hSs.out hne, ← h3, cert_core hs hv hSs.out hne h2, if_pos rfl, hLB.out]
    · rw [coreCheck_is hs hv hSs.out hne, hLB.out, hb]
      split
      · decide
      · assumption
  clear hok hl hTab hcv hqd
  by_cases hc30 : 30 < c.length
  · have d0 : decide ((30 : Int) < (c.length : Int)) = true := decide_eq_true (by omega)
    clear hs hv hc30
    go_enter Tryz.func6, Tryz.ntmps6
    go_wp2_with fail
    refine (sanity34_calls _ (hTb.out.ext (by exact (by repeat' (first | (with_reducible exact Ext.refl _) | (with_reducible assumption) | (with_reducible refine Ext.drewN ?_ _) | (with_reducible refine Ext.drew ?_) | (with_reducible refine Ext.alloc ?_ _) | (with_reducible refine Ext.trans ?_ (by with_reducible assumption))))))).mono ?_
    rintro e w1 ⟨rfl, hx⟩
    have hE := Lib.hid (show Ext w w1 from Ext.trans (by exact (by repeat' (first | (with_reducible exact Ext.refl _) | (with_reducible assumption) | (with_reducible refine Ext.drewN ?_ _) | (with_reducible refine Ext.drew ?_) | (with_reducible refine Ext.alloc ?_ _) | (with_reducible refine Ext.trans ?_ (by with_reducible assumption))))) hx)
    replace hTb := Lib.hid (hTb.out.ext hE.out)
    replace hRw := Lib.hid (hRw.out.ext hE.out)
    replace hC := Lib.hid (hC.out.ext hE.out)
    clear hx
    go_wp2
    go_ret
    exact ⟨rfl, hE.out⟩
  · have d0 : decide ((30 : Int) < (c.length : Int)) = false := decide_eq_false (by omega)
    clear hc30
    cases hstB : standB T with
    | true =>
      have hof' : Hid (ofT T = ([], false, 0)) := Lib.hid (of_stands hs hv hstB)
      clear hs hv hstB
      go_enter Tryz.func6, Tryz.ntmps6
      go_wp2_with fail
      refine (sanity34_calls _ (hTb.out.ext (by exact (by repeat' (first | (with_reducible exact Ext.refl _) | (with_reducible assumption) | (with_reducible refine Ext.drewN ?_ _) | (with_reducible refine Ext.drew ?_) | (with_reducible refine Ext.alloc ?_ _) | (with_reducible refine Ext.trans ?_ (by with_reducible assumption))))))).mono ?_
      rintro e w1 ⟨rfl, hx⟩
      have hE := Lib.hid (show Ext w w1 from Ext.trans (by exact (by repeat' (first | (with_reducible exact Ext.refl _) | (with_reducible assumption) | (with_reducible refine Ext.drewN ?_ _) | (with_reducible refine Ext.drew ?_) | (with_reducible refine Ext.alloc ?_ _) | (with_reducible refine Ext.trans ?_ (by with_reducible assumption))))) hx)
      replace hTb := Lib.hid (hTb.out.ext hE.out)
      replace hRw := Lib.hid (hRw.out.ext hE.out)
      replace hC := Lib.hid (hC.out.ext hE.out)
      clear hx
      go_wp2_with fail
      refine (made34_calls _ l w1 hRw.out).mono ?_
      rw [hTd.out]
      rintro e w2 ⟨tv, rfl, ht, hq⟩
      have ht2 := ht.read
      obtain ⟨ta, tc, rfl⟩ := ht2.form
      have hTw := Lib.hid ht2
      replace hTb := Lib.hid (hTb.out.ext hq)
      replace hC := Lib.hid (hC.out.ext hq)
      replace hE := Lib.hid (hE.out.trans hq)
      clear ht ht2 hq hRw
      go_wp2_with fail
      have hq0 := Lib.hid ((Ext.refl w2).alloc (.cells #[.slice ta T.length tc] 27))
      refine (of_calls (.slice ta T.length tc) T _ (hTw.out.ext hq0.out)).mono ?_
      rw [hof'.out]
      rintro e w3 ⟨lv, rfl, hlv, hx⟩
      obtain ⟨la, lc, rfl⟩ := hlv.form
      have hL := Lib.hid hlv
      have hB : Hid (Blk w3 w2.heap.size 27 #[.slice ta T.length tc]) := Lib.hid ((Keep.of_ext (X := fun _ => False) hx).blk (blk_new' rfl rfl) id)
      have hq := hq0.out.trans hx
      clear hlv hx hq0
      replace hTw := Lib.hid (hTw.out.ext hq)
      replace hTb := Lib.hid (hTb.out.ext hq)
      replace hC := Lib.hid (hC.out.ext hq)
      replace hE := Lib.hid (hE.out.trans hq)
      clear hq
      have b0 : w3.cell? ⟨w2.heap.size, 0, none⟩ = some (.slice ta T.length tc) := hB.out.cell 0
      have bl := hB.out.lt
      go_wp2_with fail
      refine (selection_calls (.slice ta T.length tc) T n w3 hTw.out ⟨hn0, hn1⟩ hlen6).mono ?_
      rw [hSd.out]
      rintro e w6 ⟨sv, rfl, hsv, hq⟩
      obtain ⟨sa, sc, rfl⟩ := owns_form hsv
      clear b0 bl
      (try replace hRw := Lib.hid (hRw.out.ext hq))
      (try replace hTw := Lib.hid (hTw.out.ext hq))
      (try replace hL := Lib.hid (hL.out.ext hq))
      (try replace hS := Lib.hid (hS.out.ext hq))
      (try replace hS2 := Lib.hid (hS2.out.ext hq))
      (try replace hA := Lib.hid (hA.out.ext hq))
      (try replace hC := Lib.hid (hC.out.ext hq))
      (try replace hN := Lib.hid (hN.out.ext hq))
      (try replace hTb := Lib.hid (hTb.out.ext hq))
      (try replace hB := Lib.hid ((Keep.of_ext (X := fun _ => False) hq).blk hB.out id))
      (try replace hX := Lib.hid ((Keep.of_ext (X := fun _ => False) hq).blk hX.out id))
      replace hE := Lib.hid (hE.out.trans hq)
      clear hq
      have hS := Lib.hid hsv.read
      clear hsv
      have b0 : w6.cell? ⟨w2.heap.size, 0, none⟩ = some (.slice ta T.length tc) := hB.out.cell 0
      have bl := hB.out.lt
      go_wp2_with fail
      refine (Stands_calls (.slice ta T.length tc) (.slice sa S.length sc) T S w6 hTw.out hS.out).mono ?_
      rw [hst.out]
      rintro e w7 ⟨rfl, hq⟩
      clear b0 bl
      (try replace hRw := Lib.hid (hRw.out.ext hq))
      (try replace hTw := Lib.hid (hTw.out.ext hq))
      (try replace hL := Lib.hid (hL.out.ext hq))
      (try replace hS := Lib.hid (hS.out.ext hq))
      (try replace hS2 := Lib.hid (hS2.out.ext hq))
      (try replace hA := Lib.hid (hA.out.ext hq))
      (try replace hC := Lib.hid (hC.out.ext hq))
      (try replace hN := Lib.hid (hN.out.ext hq))
      (try replace hTb := Lib.hid (hTb.out.ext hq))
      (try replace hB := Lib.hid ((Keep.of_ext (X := fun _ => False) hq).blk hB.out id))
      (try replace hX := Lib.hid ((Keep.of_ext (X := fun _ => False) hq).blk hX.out id))
      replace hE := Lib.hid (hE.out.trans hq)
      clear hq
      have b0 : w7.cell? ⟨w2.heap.size, 0, none⟩ = some (.slice ta T.length tc) := hB.out.cell 0
      have bl := hB.out.lt
      go_wp2_with fail
      refine (show_calls (.slice ta T.length tc) (.slice sa S.length sc) T S w7 hTw.out hS.out hroomS.out).mono ?_
      rw [hsh.out]
      rintro e w8 ⟨nv, rfl, hnv, hq⟩
      obtain ⟨na, nc, rfl⟩ := hnv.form
      clear b0 bl
      (try replace hRw := Lib.hid (hRw.out.ext hq))
      (try replace hTw := Lib.hid (hTw.out.ext hq))
      (try replace hL := Lib.hid (hL.out.ext hq))
      (try replace hS := Lib.hid (hS.out.ext hq))
      (try replace hS2 := Lib.hid (hS2.out.ext hq))
      (try replace hA := Lib.hid (hA.out.ext hq))
      (try replace hC := Lib.hid (hC.out.ext hq))
      (try replace hN := Lib.hid (hN.out.ext hq))
      (try replace hTb := Lib.hid (hTb.out.ext hq))
      (try replace hB := Lib.hid ((Keep.of_ext (X := fun _ => False) hq).blk hB.out id))
      (try replace hX := Lib.hid ((Keep.of_ext (X := fun _ => False) hq).blk hX.out id))
      replace hE := Lib.hid (hE.out.trans hq)
      clear hq
      have hN := Lib.hid hnv
      clear hnv
      by_cases hS0 : S = []
      · have d1 : ((S.length : Int) == 0) = true := by rw [hS0]; rfl
        obtain rfl := hc0.out hS0
        clear hS0
        go_wp2
        go_ret
        exact ⟨rfl, hE.out⟩
      · have d1 : ((S.length : Int) == 0) = false := by
          have := List.length_pos_iff.2 hS0
          rw [beq_eq_false_iff_ne]; omega
        obtain ⟨e3, he3⟩ : ∃ e3, Hid (coreCheckT T S c = e3) := ⟨_, rfl⟩
        cases q with
        | true =>
          obtain ⟨rfl, rfl, hne⟩ := hc1.out hS0 rfl
          rw [he3.out] at hne
          have d3 : (e3 != 0) = true := by rw [bne_iff_ne]; exact hne
          clear hS0 hne
          have b0 : w8.cell? ⟨w2.heap.size, 0, none⟩ = some (.slice ta T.length tc) := hB.out.cell 0
          have bl := hB.out.lt
          go_wp2_with fail
          refine (coreCheck_calls (.slice ta T.length tc) (.slice sa S.length sc) (.slice ca c.length cc) T S c w8 hTw.out hS.out hC.out hck.out).mono ?_
          rw [he3.out]
          rintro e w9 ⟨rfl, hq⟩
          clear b0 bl
          go_wp2
          go_ret
          exact ⟨rfl, hE.out.trans hq⟩
        | false =>
          obtain ⟨rfl, hkN, hcN, hcf⟩ := hc2.out hS0 rfl
          have hkN' := Lib.hid hkN
          have hcN' := Lib.hid hcN
          have hcf' := Lib.hid hcf
          clear hS0 hkN hcN hcf
          go_wp2_with fail
          go_loopw [19, 20] (fun vl vi wr => ∃ (i : Nat) (lb : Bool), i ≤ S.length ∧ vl = .bool lb ∧ vi = .int .i64 i ∧ Hid (lb = (List.range i).all fun k => selSt T (S.eraseIdx k)) ∧ Hid (Blk wr w2.heap.size 27 #[.slice ta T.length tc]) ∧ Hid (Ext w8 wr)) (fun _ vi _ => S.length - (intOf vi).toNat)
          case atStart => exact ⟨0, true, Nat.zero_le _, rfl, rfl, rfl, hB, Lib.hid (Ext.refl _)⟩
          case round =>
            obtain ⟨i, lb, hi, rfl, rfl, hlb, hBr, hx⟩ := hrel
            by_cases i1 : i < S.length
            · obtain ⟨M, hM⟩ : ∃ M, Hid (S.eraseIdx i = M) := ⟨_, rfl⟩
              obtain ⟨qr, hqr⟩ : ∃ b, Hid (selSt T M = b) := ⟨_, rfl⟩
              have hq : Hid (StandsT T M = (qr, 0)) := Lib.hid (by rw [← hM.out, StandsT_sel hs'.out hv'.out ((List.eraseIdx_sublist S i).trans hSs.out), hM.out, hqr.out])
              have hN2 : Hid ((lb && qr) = (List.range (i + 1)).all fun k => selSt T (S.eraseIdx k)) := Lib.hid (by rw [List.range_succ, List.all_append, ← hlb.out]; simp [hM.out, hqr.out])
              have hSl : S.length ≤ 1000 := by have := up_len hSs.out; omega
              clear hlb hqr
              go_upto_region 23 with (fail)
              have z0 := After.cell (show wr.cell? ⟨w2.heap.size, 0, none⟩ = some (.slice ta T.length tc) from hBr.out.cell 0)
              (refine wp_region_held [] [0, 1, 2, 3, 4, 5, 6, 7, 8, 9] [] (CkCon M qr 0) (by kernel_rfl) (by kernel_rfl) ?_; simp only [pickL]; with_reducible refine wpQuiet_nil ?_)
              (refine held_quiet [0, 1, 2] [3, 4, 5, 6, 7, 8, 9] (by kernel_rfl) (by kernel_rfl) ?_; simp only [pickL, List.drop]; (repeat (go_big_quiet_step (fail))); with_reducible refine wpQuiet_nil ?_)
              (refine held_call 3 [4, 5, 6, 7, 8, 9] rfl (by kernel_rfl) 32 (#[.slice sa S.length sc, .int .i64 (i : Int)]) (fun W => by kernel_rfl) rfl ?_ ?_ ?_)
              · exact fun W W' v e hh => ⟨fun h => (hh.1 h).ext e, hh.2⟩
              · refine fun W hW _ => (rWithout_calls _ S i W (hS.out.ext (hx.out.trans hW)) (by omega)).mono ?_
                rw [hM.out]
                rintro e W' ⟨v, rfl, hv, hxx⟩
                exact ⟨_, rfl, hxx, ⟨fun _ => hv.read, (fun h => by cases h)⟩⟩
              rintro v ⟨Y, hY, hCv⟩
              obtain ⟨mA, mC, rfl⟩ := (hCv.1 rfl).form
              clear hCv hY Y
              simp only [Act.put, List.setIfInBounds_toArray, List.set_cons_succ, List.set_cons_zero]
              (refine held_call 4 [5, 6, 7, 8, 9] rfl (by kernel_rfl) 18 (#[.agg #[.slice ta T.length tc], .slice mA M.length mC]) (fun W => by kernel_rfl) rfl ?_ ?_ ?_)
              · exact fun W W' v e hh => ⟨fun h => (hh.1 h).ext e, hh.2⟩
              · refine fun W hW hD => (Stands_calls _ _ T M W (hTw.out.ext (hx.out.trans hW)) (((hD 3 (dep_of 10 4 3 (by kernel_rfl))).2 rfl).1 rfl)).mono ?_
                rw [hq.out]
                rintro e W' ⟨rfl, hxx⟩
                exact ⟨_, rfl, hxx, ⟨(fun h => by cases h), fun _ => rfl⟩⟩
              rintro v ⟨Y, hY, hCv⟩
              obtain rfl := hCv.2 rfl
              clear hCv hY Y
              simp only [Act.put, List.setIfInBounds_toArray, List.set_cons_succ, List.set_cons_zero]
              (refine held_quiet [5, 6, 7, 8, 9] [] (by kernel_rfl) (by kernel_rfl) ?_; simp only [pickL, List.drop]; (repeat (go_big_quiet_step (fail))); with_reducible refine wpQuiet_nil ?_)
              intro w9 hx9 hfc htk Q0 hQ0
              simp only [pickL]
              have hB9 := Lib.hid ((Keep.of_ext (X := fun _ => False) hx9).blk hBr.out id)
              have hx9' := Lib.hid (hx.out.trans hx9)
              clear hfc htk z0 hx9 hBr hx hq hM
              refine hQ0 _ _ ?_
              clear hQ0 Q0
              cases lb with
              | true =>
                cases qr with
                | true =>
                  go_wp2
                  go_roundw
                  case rel => first | exact ⟨i + 1, _, i1, rfl, by go_num, hN2, hB9, hx9'⟩ | ((repeat apply Exists.intro); exact ⟨⟨i + 1, _, i1, rfl, by go_num, hN2, hB9, hx9'⟩, rfl⟩)
                  case measure => simp [intOf]; omega
                | false =>
                  go_wp2
                  go_roundw
                  case rel => first | exact ⟨i + 1, _, i1, rfl, by go_num, hN2, hB9, hx9'⟩ | ((repeat apply Exists.intro); exact ⟨⟨i + 1, _, i1, rfl, by go_num, hN2, hB9, hx9'⟩, rfl⟩)
                  case measure => simp [intOf]; omega
              | false =>
                go_wp2
                go_roundw
                case rel => first | exact ⟨i + 1, _, i1, rfl, by go_num, hN2, hB9, hx9'⟩ | ((repeat apply Exists.intro); exact ⟨⟨i + 1, _, i1, rfl, by go_num, hN2, hB9, hx9'⟩, rfl⟩)
                case measure => simp [intOf]; omega
            · have hle : Hid (lb = LB) := Lib.hid (by
                obtain rfl : i = S.length := by omega
                rw [hlb.out, hLB.out])
              have hq := hx.out
              clear hlb hB
              replace hTw := Lib.hid (hTw.out.ext hq)
              replace hS := Lib.hid (hS.out.ext hq)
              replace hC := Lib.hid (hC.out.ext hq)
              replace hN := Lib.hid (hN.out.ext hq)
              replace hE := Lib.hid (hE.out.trans hq)
              clear hq hx
              have hB := hBr
              clear hBr
              rw [hle.out]
              clear hle
              cases LB with
              | true =>
                have hcN2 : Hid (coreCheckT T S N2 = 0) := Lib.hid (by rw [hcN'.out]; rfl)
                clear hcN'
                have b0 : wr.cell? ⟨w2.heap.size, 0, none⟩ = some (.slice ta T.length tc) := hB.out.cell 0
                have bl := hB.out.lt
                go_wp2_with fail
                refine (coreCheck_calls (.slice ta T.length tc) (.slice sa S.length sc) (.slice na N2.length nc) T S N2 wr hTw.out hS.out hN.out hkN'.out).mono ?_
                rw [hcN2.out]
                rintro e w9 ⟨rfl, hq⟩
                clear b0 bl
                go_wp2
                go_ret
                exact ⟨rfl, hE.out.trans hq⟩
              | false =>
                have hcN2 : Hid (coreCheckT T S N2 = 11) := Lib.hid (by rw [hcN'.out]; rfl)
                have d3 : (e3 != 0) = true := by rw [bne_iff_ne, ← he3.out]; exact hcf'.out rfl
                clear hcN' hcf'
                have b0 : wr.cell? ⟨w2.heap.size, 0, none⟩ = some (.slice ta T.length tc) := hB.out.cell 0
                have bl := hB.out.lt
                go_wp2_with fail
                refine (coreCheck_calls (.slice ta T.length tc) (.slice sa S.length sc) (.slice na N2.length nc) T S N2 wr hTw.out hS.out hN.out hkN'.out).mono ?_
                rw [hcN2.out]
                rintro e w9 ⟨rfl, hq⟩
                clear b0 bl
                (try replace hRw := Lib.hid (hRw.out.ext hq))
                (try replace hTw := Lib.hid (hTw.out.ext hq))
                (try replace hL := Lib.hid (hL.out.ext hq))
                (try replace hS := Lib.hid (hS.out.ext hq))
                (try replace hS2 := Lib.hid (hS2.out.ext hq))
                (try replace hA := Lib.hid (hA.out.ext hq))
                (try replace hC := Lib.hid (hC.out.ext hq))
                (try replace hN := Lib.hid (hN.out.ext hq))
                (try replace hTb := Lib.hid (hTb.out.ext hq))
                (try replace hB := Lib.hid ((Keep.of_ext (X := fun _ => False) hq).blk hB.out id))
                (try replace hX := Lib.hid ((Keep.of_ext (X := fun _ => False) hq).blk hX.out id))
                replace hE := Lib.hid (hE.out.trans hq)
                clear hq
                have b0 : w9.cell? ⟨w2.heap.size, 0, none⟩ = some (.slice ta T.length tc) := hB.out.cell 0
                have bl := hB.out.lt
                go_wp2_with fail
                refine (coreCheck_calls (.slice ta T.length tc) (.slice sa S.length sc) (.slice ca c.length cc) T S c w9 hTw.out hS.out hC.out hck.out).mono ?_
                rw [he3.out]
                rintro e w10 ⟨rfl, hq⟩
                clear b0 bl
                go_wp2
                go_ret
                exact ⟨rfl, hE.out.trans hq⟩
    | false =>
      obtain ⟨L, hof, hLs, hLc⟩ := of_core hs hv hstB
      have hof' := Lib.hid hof
      have hL0 : L ≠ [] := fun e => by have := hLc.two hs hLs; rw [e] at this; simp at this
      have hLi := Lib.hid (up_idx hLs)
      have hL6 : L.length ≤ 1000 := by have := up_len hLs; omega
      obtain ⟨N1, hN1d⟩ : ∃ N1, Hid ((growL (subT T L) 1000000000 (subT T L) [] 0 0).nodes = N1) := ⟨_, rfl⟩
      have hsh1 : Hid (showT T L = (N1, 0)) := Lib.hid (by rw [show_core hs hv hLs hL0 hLc.1, hN1d.out])
      have hk1 : Hid (∀ n ∈ N1, n.kids.length ≤ 17592186044416) := Lib.hid (hN1d.out ▸ show_kids hs hLs)
      have hce := cert_core hs hv hLs hL0 hLc.1
      rw [hN1d.out] at hce
      have hce' := Lib.hid hce
      have hcc1 : Hid (coreCheckT T L N1 = 0) := Lib.hid (by
        rw [coreCheck_is hs hv hLs hL0, hce, if_pos rfl, if_pos (List.all_eq_true.2 fun k hk => hLc.2 k (List.mem_range.1 hk))])
      have hroom1 := Lib.hid (room_sel hs hv hLs)
      clear hs hv hstB hof hLs hLc hL0 hN1d hce
      go_enter Tryz.func6, Tryz.ntmps6
      go_wp2_with fail
      refine (sanity34_calls _ (hTb.out.ext (by exact (by repeat' (first | (with_reducible exact Ext.refl _) | (with_reducible assumption) | (with_reducible refine Ext.drewN ?_ _) | (with_reducible refine Ext.drew ?_) | (with_reducible refine Ext.alloc ?_ _) | (with_reducible refine Ext.trans ?_ (by with_reducible assumption))))))).mono ?_
      rintro e w1 ⟨rfl, hx⟩
      have hE := Lib.hid (show Ext w w1 from Ext.trans (by exact (by repeat' (first | (with_reducible exact Ext.refl _) | (with_reducible assumption) | (with_reducible refine Ext.drewN ?_ _) | (with_reducible refine Ext.drew ?_) | (with_reducible refine Ext.alloc ?_ _) | (with_reducible refine Ext.trans ?_ (by with_reducible assumption))))) hx)
      replace hTb := Lib.hid (hTb.out.ext hE.out)
      replace hRw := Lib.hid (hRw.out.ext hE.out)
      replace hC := Lib.hid (hC.out.ext hE.out)
      clear hx
      go_wp2_with fail
      refine (made34_calls _ l w1 hRw.out).mono ?_
      rw [hTd.out]
      rintro e w2 ⟨tv, rfl, ht, hq⟩
      have ht2 := ht.read
      obtain ⟨ta, tc, rfl⟩ := ht2.form
      have hTw := Lib.hid ht2
      replace hTb := Lib.hid (hTb.out.ext hq)
      replace hC := Lib.hid (hC.out.ext hq)
      replace hE := Lib.hid (hE.out.trans hq)
      clear ht ht2 hq hRw
      go_wp2_with fail
      have hq0 := Lib.hid ((Ext.refl w2).alloc (.cells #[.slice ta T.length tc] 27))
      refine (of_calls (.slice ta T.length tc) T _ (hTw.out.ext hq0.out)).mono ?_
      rw [hof'.out]
      rintro e w3 ⟨lv, rfl, hlv, hx⟩
      obtain ⟨la, lc, rfl⟩ := hlv.form
      have hL := Lib.hid hlv
      have hB : Hid (Blk w3 w2.heap.size 27 #[.slice ta T.length tc]) := Lib.hid ((Keep.of_ext (X := fun _ => False) hx).blk (blk_new' rfl rfl) id)
      have hq := hq0.out.trans hx
      clear hlv hx hq0
      replace hTw := Lib.hid (hTw.out.ext hq)
      replace hTb := Lib.hid (hTb.out.ext hq)
      replace hC := Lib.hid (hC.out.ext hq)
      replace hE := Lib.hid (hE.out.trans hq)
      clear hq
      have b0 : w3.cell? ⟨w2.heap.size, 0, none⟩ = some (.slice ta T.length tc) := hB.out.cell 0
      have bl := hB.out.lt
      go_wp2_with fail
      refine (show_calls (.slice ta T.length tc) (.slice la L.length lc) T L w3 hTw.out hL.out hroom1.out).mono ?_
      rw [hsh1.out]
      rintro e w4 ⟨nv, rfl, hnv, hq⟩
      obtain ⟨ma, mc, rfl⟩ := hnv.form
      clear b0 bl
      (try replace hRw := Lib.hid (hRw.out.ext hq))
      (try replace hTw := Lib.hid (hTw.out.ext hq))
      (try replace hL := Lib.hid (hL.out.ext hq))
      (try replace hS := Lib.hid (hS.out.ext hq))
      (try replace hS2 := Lib.hid (hS2.out.ext hq))
      (try replace hA := Lib.hid (hA.out.ext hq))
      (try replace hC := Lib.hid (hC.out.ext hq))
      (try replace hN := Lib.hid (hN.out.ext hq))
      (try replace hTb := Lib.hid (hTb.out.ext hq))
      (try replace hB := Lib.hid ((Keep.of_ext (X := fun _ => False) hq).blk hB.out id))
      (try replace hX := Lib.hid ((Keep.of_ext (X := fun _ => False) hq).blk hX.out id))
      replace hE := Lib.hid (hE.out.trans hq)
      clear hq
      have hN := Lib.hid hnv
      clear hnv
      have b0 : w4.cell? ⟨w2.heap.size, 0, none⟩ = some (.slice ta T.length tc) := hB.out.cell 0
      have bl := hB.out.lt
      go_wp2_with fail
      refine (coreCheck_calls (.slice ta T.length tc) (.slice la L.length lc) (.slice ma N1.length mc) T L N1 w4 hTw.out hL.out hN.out hk1.out).mono ?_
      rw [hcc1.out]
      rintro e wa ⟨rfl, hq⟩
      clear b0 bl
      (try replace hRw := Lib.hid (hRw.out.ext hq))
      (try replace hTw := Lib.hid (hTw.out.ext hq))
      (try replace hL := Lib.hid (hL.out.ext hq))
      (try replace hS := Lib.hid (hS.out.ext hq))
      (try replace hS2 := Lib.hid (hS2.out.ext hq))
      (try replace hA := Lib.hid (hA.out.ext hq))
      (try replace hC := Lib.hid (hC.out.ext hq))
      (try replace hN := Lib.hid (hN.out.ext hq))
      (try replace hTb := Lib.hid (hTb.out.ext hq))
      (try replace hB := Lib.hid ((Keep.of_ext (X := fun _ => False) hq).blk hB.out id))
      (try replace hX := Lib.hid ((Keep.of_ext (X := fun _ => False) hq).blk hX.out id))
      replace hE := Lib.hid (hE.out.trans hq)
      clear hq
      have b0 : wa.cell? ⟨w2.heap.size, 0, none⟩ = some (.slice ta T.length tc) := hB.out.cell 0
      have bl := hB.out.lt
      go_wp2_with fail
      refine (rSub_calls (.slice ta T.length tc) (.slice la L.length lc) T L wa hTw.out hL.out hLi.out hL6).mono ?_
      rintro e wb ⟨uv, rfl, huv, hq⟩
      obtain ⟨ua, uc, rfl⟩ := huv.form
      have hU := Lib.hid huv
      clear b0 bl huv
      (try replace hRw := Lib.hid (hRw.out.ext hq))
      (try replace hTw := Lib.hid (hTw.out.ext hq))
      (try replace hL := Lib.hid (hL.out.ext hq))
      (try replace hS := Lib.hid (hS.out.ext hq))
      (try replace hS2 := Lib.hid (hS2.out.ext hq))
      (try replace hA := Lib.hid (hA.out.ext hq))
      (try replace hC := Lib.hid (hC.out.ext hq))
      (try replace hN := Lib.hid (hN.out.ext hq))
      (try replace hTb := Lib.hid (hTb.out.ext hq))
      (try replace hB := Lib.hid ((Keep.of_ext (X := fun _ => False) hq).blk hB.out id))
      (try replace hX := Lib.hid ((Keep.of_ext (X := fun _ => False) hq).blk hX.out id))
      replace hE := Lib.hid (hE.out.trans hq)
      clear hq
      go_wp2_with fail
      refine (check_callsK (.slice ua (subT T L).length uc) (.slice ma N1.length mc) (subT T L) 1000000000 N1 wb hU.out hN.out hk1.out).mono ?_
      rw [hce'.out]
      rintro e w5 ⟨rfl, hq⟩
      (try replace hRw := Lib.hid (hRw.out.ext hq))
      (try replace hTw := Lib.hid (hTw.out.ext hq))
      (try replace hL := Lib.hid (hL.out.ext hq))
      (try replace hS := Lib.hid (hS.out.ext hq))
      (try replace hS2 := Lib.hid (hS2.out.ext hq))
      (try replace hA := Lib.hid (hA.out.ext hq))
      (try replace hC := Lib.hid (hC.out.ext hq))
      (try replace hN := Lib.hid (hN.out.ext hq))
      (try replace hTb := Lib.hid (hTb.out.ext hq))
      (try replace hB := Lib.hid ((Keep.of_ext (X := fun _ => False) hq).blk hB.out id))
      (try replace hX := Lib.hid ((Keep.of_ext (X := fun _ => False) hq).blk hX.out id))
      replace hE := Lib.hid (hE.out.trans hq)
      clear hq
      clear hU hN hL hce' hcc1 hk1 hsh1 hLi hroom1 hof'
      have b0 : w5.cell? ⟨w2.heap.size, 0, none⟩ = some (.slice ta T.length tc) := hB.out.cell 0
      have bl := hB.out.lt
      go_wp2_with fail
      refine (selection_calls (.slice ta T.length tc) T n w5 hTw.out ⟨hn0, hn1⟩ hlen6).mono ?_
      rw [hSd.out]
      rintro e w6 ⟨sv, rfl, hsv, hq⟩
      obtain ⟨sa, sc, rfl⟩ := owns_form hsv
      clear b0 bl
      (try replace hRw := Lib.hid (hRw.out.ext hq))
      (try replace hTw := Lib.hid (hTw.out.ext hq))
      (try replace hL := Lib.hid (hL.out.ext hq))
      (try replace hS := Lib.hid (hS.out.ext hq))
      (try replace hS2 := Lib.hid (hS2.out.ext hq))
      (try replace hA := Lib.hid (hA.out.ext hq))
      (try replace hC := Lib.hid (hC.out.ext hq))
      (try replace hN := Lib.hid (hN.out.ext hq))
      (try replace hTb := Lib.hid (hTb.out.ext hq))
      (try replace hB := Lib.hid ((Keep.of_ext (X := fun _ => False) hq).blk hB.out id))
      (try replace hX := Lib.hid ((Keep.of_ext (X := fun _ => False) hq).blk hX.out id))
      replace hE := Lib.hid (hE.out.trans hq)
      clear hq
      have hS := Lib.hid hsv.read
      clear hsv
      have b0 : w6.cell? ⟨w2.heap.size, 0, none⟩ = some (.slice ta T.length tc) := hB.out.cell 0
      have bl := hB.out.lt
      go_wp2_with fail
      refine (Stands_calls (.slice ta T.length tc) (.slice sa S.length sc) T S w6 hTw.out hS.out).mono ?_
      rw [hst.out]
      rintro e w7 ⟨rfl, hq⟩
      clear b0 bl
      (try replace hRw := Lib.hid (hRw.out.ext hq))
      (try replace hTw := Lib.hid (hTw.out.ext hq))
      (try replace hL := Lib.hid (hL.out.ext hq))
      (try replace hS := Lib.hid (hS.out.ext hq))
      (try replace hS2 := Lib.hid (hS2.out.ext hq))
      (try replace hA := Lib.hid (hA.out.ext hq))
      (try replace hC := Lib.hid (hC.out.ext hq))
      (try replace hN := Lib.hid (hN.out.ext hq))
      (try replace hTb := Lib.hid (hTb.out.ext hq))
      (try replace hB := Lib.hid ((Keep.of_ext (X := fun _ => False) hq).blk hB.out id))
      (try replace hX := Lib.hid ((Keep.of_ext (X := fun _ => False) hq).blk hX.out id))
      replace hE := Lib.hid (hE.out.trans hq)
      clear hq
      have b0 : w7.cell? ⟨w2.heap.size, 0, none⟩ = some (.slice ta T.length tc) := hB.out.cell 0
      have bl := hB.out.lt
      go_wp2_with fail
      refine (show_calls (.slice ta T.length tc) (.slice sa S.length sc) T S w7 hTw.out hS.out hroomS.out).mono ?_
      rw [hsh.out]
      rintro e w8 ⟨nv, rfl, hnv, hq⟩
      obtain ⟨na, nc, rfl⟩ := hnv.form
      clear b0 bl
      (try replace hRw := Lib.hid (hRw.out.ext hq))
      (try replace hTw := Lib.hid (hTw.out.ext hq))
      (try replace hL := Lib.hid (hL.out.ext hq))
      (try replace hS := Lib.hid (hS.out.ext hq))
      (try replace hS2 := Lib.hid (hS2.out.ext hq))
      (try replace hA := Lib.hid (hA.out.ext hq))
      (try replace hC := Lib.hid (hC.out.ext hq))
      (try replace hN := Lib.hid (hN.out.ext hq))
      (try replace hTb := Lib.hid (hTb.out.ext hq))
      (try replace hB := Lib.hid ((Keep.of_ext (X := fun _ => False) hq).blk hB.out id))
      (try replace hX := Lib.hid ((Keep.of_ext (X := fun _ => False) hq).blk hX.out id))
      replace hE := Lib.hid (hE.out.trans hq)
      clear hq
      have hN := Lib.hid hnv
      clear hnv
      by_cases hS0 : S = []
      · have d1 : ((S.length : Int) == 0) = true := by rw [hS0]; rfl
        obtain rfl := hc0.out hS0
        clear hS0
        go_wp2
        go_ret
        exact ⟨rfl, hE.out⟩
      · have d1 : ((S.length : Int) == 0) = false := by
          have := List.length_pos_iff.2 hS0
          rw [beq_eq_false_iff_ne]; omega
        obtain ⟨e3, he3⟩ : ∃ e3, Hid (coreCheckT T S c = e3) := ⟨_, rfl⟩
        cases q with
        | true =>
          obtain ⟨rfl, rfl, hne⟩ := hc1.out hS0 rfl
          rw [he3.out] at hne
          have d3 : (e3 != 0) = true := by rw [bne_iff_ne]; exact hne
          clear hS0 hne
          have b0 : w8.cell? ⟨w2.heap.size, 0, none⟩ = some (.slice ta T.length tc) := hB.out.cell 0
          have bl := hB.out.lt
          go_wp2_with fail
          refine (coreCheck_calls (.slice ta T.length tc) (.slice sa S.length sc) (.slice ca c.length cc) T S c w8 hTw.out hS.out hC.out hck.out).mono ?_
          rw [he3.out]
          rintro e w9 ⟨rfl, hq⟩
          clear b0 bl
          go_wp2
          go_ret
          exact ⟨rfl, hE.out.trans hq⟩
        | false =>
          obtain ⟨rfl, hkN, hcN, hcf⟩ := hc2.out hS0 rfl
          have hkN' := Lib.hid hkN
          have hcN' := Lib.hid hcN
          have hcf' := Lib.hid hcf
          clear hS0 hkN hcN hcf
          go_wp2_with fail
          go_loopw [19, 20] (fun vl vi wr => ∃ (i : Nat) (lb : Bool), i ≤ S.length ∧ vl = .bool lb ∧ vi = .int .i64 i ∧ Hid (lb = (List.range i).all fun k => selSt T (S.eraseIdx k)) ∧ Hid (Blk wr w2.heap.size 27 #[.slice ta T.length tc]) ∧ Hid (Ext w8 wr)) (fun _ vi _ => S.length - (intOf vi).toNat)
          case atStart => exact ⟨0, true, Nat.zero_le _, rfl, rfl, rfl, hB, Lib.hid (Ext.refl _)⟩
          case round =>
            obtain ⟨i, lb, hi, rfl, rfl, hlb, hBr, hx⟩ := hrel
            by_cases i1 : i < S.length
            · obtain ⟨M, hM⟩ : ∃ M, Hid (S.eraseIdx i = M) := ⟨_, rfl⟩
              obtain ⟨qr, hqr⟩ : ∃ b, Hid (selSt T M = b) := ⟨_, rfl⟩
              have hq : Hid (StandsT T M = (qr, 0)) := Lib.hid (by rw [← hM.out, StandsT_sel hs'.out hv'.out ((List.eraseIdx_sublist S i).trans hSs.out), hM.out, hqr.out])
              have hN2 : Hid ((lb && qr) = (List.range (i + 1)).all fun k => selSt T (S.eraseIdx k)) := Lib.hid (by rw [List.range_succ, List.all_append, ← hlb.out]; simp [hM.out, hqr.out])
              have hSl : S.length ≤ 1000 := by have := up_len hSs.out; omega
              clear hlb hqr
              go_upto_region 23 with (fail)
              have z0 := After.cell (show wr.cell? ⟨w2.heap.size, 0, none⟩ = some (.slice ta T.length tc) from hBr.out.cell 0)
              (refine wp_region_held [] [0, 1, 2, 3, 4, 5, 6, 7, 8, 9] [] (CkCon M qr 0) (by kernel_rfl) (by kernel_rfl) ?_; simp only [pickL]; with_reducible refine wpQuiet_nil ?_)
              (refine held_quiet [0, 1, 2] [3, 4, 5, 6, 7, 8, 9] (by kernel_rfl) (by kernel_rfl) ?_; simp only [pickL, List.drop]; (repeat (go_big_quiet_step (fail))); with_reducible refine wpQuiet_nil ?_)
              (refine held_call 3 [4, 5, 6, 7, 8, 9] rfl (by kernel_rfl) 32 (#[.slice sa S.length sc, .int .i64 (i : Int)]) (fun W => by kernel_rfl) rfl ?_ ?_ ?_)
              · exact fun W W' v e hh => ⟨fun h => (hh.1 h).ext e, hh.2⟩
              · refine fun W hW _ => (rWithout_calls _ S i W (hS.out.ext (hx.out.trans hW)) (by omega)).mono ?_
                rw [hM.out]
                rintro e W' ⟨v, rfl, hv, hxx⟩
                exact ⟨_, rfl, hxx, ⟨fun _ => hv.read, (fun h => by cases h)⟩⟩
              rintro v ⟨Y, hY, hCv⟩
              obtain ⟨mA, mC, rfl⟩ := (hCv.1 rfl).form
              clear hCv hY Y
              simp only [Act.put, List.setIfInBounds_toArray, List.set_cons_succ, List.set_cons_zero]
              (refine held_call 4 [5, 6, 7, 8, 9] rfl (by kernel_rfl) 18 (#[.agg #[.slice ta T.length tc], .slice mA M.length mC]) (fun W => by kernel_rfl) rfl ?_ ?_ ?_)
              · exact fun W W' v e hh => ⟨fun h => (hh.1 h).ext e, hh.2⟩
              · refine fun W hW hD => (Stands_calls _ _ T M W (hTw.out.ext (hx.out.trans hW)) (((hD 3 (dep_of 10 4 3 (by kernel_rfl))).2 rfl).1 rfl)).mono ?_
                rw [hq.out]
                rintro e W' ⟨rfl, hxx⟩
                exact ⟨_, rfl, hxx, ⟨(fun h => by cases h), fun _ => rfl⟩⟩
              rintro v ⟨Y, hY, hCv⟩
              obtain rfl := hCv.2 rfl
              clear hCv hY Y
              simp only [Act.put, List.setIfInBounds_toArray, List.set_cons_succ, List.set_cons_zero]
              (refine held_quiet [5, 6, 7, 8, 9] [] (by kernel_rfl) (by kernel_rfl) ?_; simp only [pickL, List.drop]; (repeat (go_big_quiet_step (fail))); with_reducible refine wpQuiet_nil ?_)
              intro w9 hx9 hfc htk Q0 hQ0
              simp only [pickL]
              have hB9 := Lib.hid ((Keep.of_ext (X := fun _ => False) hx9).blk hBr.out id)
              have hx9' := Lib.hid (hx.out.trans hx9)
              clear hfc htk z0 hx9 hBr hx hq hM
              refine hQ0 _ _ ?_
              clear hQ0 Q0
              cases lb with
              | true =>
                cases qr with
                | true =>
                  go_wp2
                  go_roundw
                  case rel => first | exact ⟨i + 1, _, i1, rfl, by go_num, hN2, hB9, hx9'⟩ | ((repeat apply Exists.intro); exact ⟨⟨i + 1, _, i1, rfl, by go_num, hN2, hB9, hx9'⟩, rfl⟩)
                  case measure => simp [intOf]; omega
                | false =>
                  go_wp2
                  go_roundw
                  case rel => first | exact ⟨i + 1, _, i1, rfl, by go_num, hN2, hB9, hx9'⟩ | ((repeat apply Exists.intro); exact ⟨⟨i + 1, _, i1, rfl, by go_num, hN2, hB9, hx9'⟩, rfl⟩)
                  case measure => simp [intOf]; omega
              | false =>
                go_wp2
                go_roundw
                case rel => first | exact ⟨i + 1, _, i1, rfl, by go_num, hN2, hB9, hx9'⟩ | ((repeat apply Exists.intro); exact ⟨⟨i + 1, _, i1, rfl, by go_num, hN2, hB9, hx9'⟩, rfl⟩)
                case measure => simp [intOf]; omega
            · have hle : Hid (lb = LB) := Lib.hid (by
                obtain rfl : i = S.length := by omega
                rw [hlb.out, hLB.out])
              have hq := hx.out
              clear hlb hB
              replace hTw := Lib.hid (hTw.out.ext hq)
              replace hS := Lib.hid (hS.out.ext hq)
              replace hC := Lib.hid (hC.out.ext hq)
              replace hN := Lib.hid (hN.out.ext hq)
              replace hE := Lib.hid (hE.out.trans hq)
              clear hq hx
              have hB := hBr
              clear hBr
              rw [hle.out]
              clear hle
              cases LB with
              | true =>
                have hcN2 : Hid (coreCheckT T S N2 = 0) := Lib.hid (by rw [hcN'.out]; rfl)
                clear hcN'
                have b0 : wr.cell? ⟨w2.heap.size, 0, none⟩ = some (.slice ta T.length tc) := hB.out.cell 0
                have bl := hB.out.lt
                go_wp2_with fail
                refine (coreCheck_calls (.slice ta T.length tc) (.slice sa S.length sc) (.slice na N2.length nc) T S N2 wr hTw.out hS.out hN.out hkN'.out).mono ?_
                rw [hcN2.out]
                rintro e w9 ⟨rfl, hq⟩
                clear b0 bl
                go_wp2
                go_ret
                exact ⟨rfl, hE.out.trans hq⟩
              | false =>
                have hcN2 : Hid (coreCheckT T S N2 = 11) := Lib.hid (by rw [hcN'.out]; rfl)
                have d3 : (e3 != 0) = true := by rw [bne_iff_ne, ← he3.out]; exact hcf'.out rfl
                clear hcN' hcf'
                have b0 : wr.cell? ⟨w2.heap.size, 0, none⟩ = some (.slice ta T.length tc) := hB.out.cell 0
                have bl := hB.out.lt
                go_wp2_with fail
                refine (coreCheck_calls (.slice ta T.length tc) (.slice sa S.length sc) (.slice na N2.length nc) T S N2 wr hTw.out hS.out hN.out hkN'.out).mono ?_
                rw [hcN2.out]
                rintro e w9 ⟨rfl, hq⟩
                clear b0 bl
                (try replace hRw := Lib.hid (hRw.out.ext hq))
                (try replace hTw := Lib.hid (hTw.out.ext hq))
                (try replace hL := Lib.hid (hL.out.ext hq))
                (try replace hS := Lib.hid (hS.out.ext hq))
                (try replace hS2 := Lib.hid (hS2.out.ext hq))
                (try replace hA := Lib.hid (hA.out.ext hq))
                (try replace hC := Lib.hid (hC.out.ext hq))
                (try replace hN := Lib.hid (hN.out.ext hq))
                (try replace hTb := Lib.hid (hTb.out.ext hq))
                (try replace hB := Lib.hid ((Keep.of_ext (X := fun _ => False) hq).blk hB.out id))
                (try replace hX := Lib.hid ((Keep.of_ext (X := fun _ => False) hq).blk hX.out id))
                replace hE := Lib.hid (hE.out.trans hq)
                clear hq
                have b0 : w9.cell? ⟨w2.heap.size, 0, none⟩ = some (.slice ta T.length tc) := hB.out.cell 0
                have bl := hB.out.lt
                go_wp2_with fail
                refine (coreCheck_calls (.slice ta T.length tc) (.slice sa S.length sc) (.slice ca c.length cc) T S c w9 hTw.out hS.out hC.out hck.out).mono ?_
                rw [he3.out]
                rintro e w10 ⟨rfl, hq⟩
                clear b0 bl
                go_wp2
                go_ret
                exact ⟨rfl, hE.out.trans hq⟩
end Go.Proofs.YtcpohkigbaechaaGreatDoor
