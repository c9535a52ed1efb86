/- The law CoreMatchesReference, walked: true for every list of raw wishes, every list of integers and every number. -/
import Derived.Test.YtjglidlmpjmjeaaGreatDoorUG
import Derived.Test.YtjglidlmpjmjeaaGreatDoorUD
import Derived.Test.YtjglidlmpjmjeaaGreatDoorVDM
import Derived.Test.YtjglidlmpjmjeaaGreatDoorVT
import Derived.Test.YtjglidlmpjmjeaaGreatDoorVR
import Derived.Laws.Strings
namespace Go.Proofs.YtjglidlmpjmjeaaGreatDoor
open Go.RowKit Go.Shelf List

theorem Ints.take {w : World} {a : Option Addr} {n c m : Nat} {l : List Int} (h : Ints w (.slice a n c) l) (hm : m ≤ n) : Ints w (.slice a m c) (l.take m) := by
 obtain ⟨a', c', e, h1, h2, h3⟩ := h
 have en : n = l.length := by cases e; rfl
 cases e
 have hl : (l.take m).length = m := by simp; omega
 refine ⟨a, c, by rw [hl], by rw [hl]; omega, h2, fun h0 => ?_⟩
 obtain ⟨b, off, e1, e2, e3⟩ := h3 (by omega)
 refine ⟨b, off, e1, e2, fun i hi j hj => ?_⟩
 rw [hl] at hi
 rw [e3 i (by omega) j hj]
 simp only [List.getElem?_take_of_lt hi]
theorem normal_m18 {l : List (Int × Int)} (h : normalB l = true) : ∀ s ∈ l, M18 s.1 ∧ M18 s.2 := fun s hs => by
 simp only [normalB, Bool.and_eq_true, rangedB, List.all_eq_true] at h
 have := h.2 s hs
 simp only [farB, Bool.not_eq_true', Bool.or_eq_false_iff, decide_eq_false_iff_not] at this
 unfold M18
 omega
theorem people_m18 : ∀ {l : List Int} {p : Option Int}, peopleB p l = true → ∀ x ∈ l, M18 x
 | [], _, _, _, hx => by cases hx
 | y :: l, p, h, x, hx => by
  simp only [peopleB, Bool.and_eq_true, decide_eq_true_eq] at h
  rcases List.mem_cons.1 hx with rfl | hx
  ·unfold M18; omega
  ·exact people_m18 h.2 x hx
theorem sized18_valid {t : List WishD} (hv : validT t = 0) (hm : ∀ x ∈ t, x.meeting ≤ 9223372036854775807) : ∀ x ∈ t, Sized18 x := fun x hx => by
 have hw := wishes_mem (valid_wishes hv) hx
 have hb := (validT_ok hv).1
 simp only [tooLargeB, Bool.or_eq_false_iff, decide_eq_false_iff_not, List.any_eq_false] at hb
 have hb2 := hb.2 x hx
 simp only [Bool.or_eq_true, decide_eq_true_eq, List.any_eq_true, not_or, not_exists, not_and] at hb2
 simp only [wishOkB, Bool.and_eq_true, decide_eq_true_eq, List.all_eq_true] at hw
 have hmt : M18 x.meeting := ⟨by omega, hm x hx⟩
 have hp := people_m18 hw.1.1.1
 have ho : ∀ o ∈ x.opts, M18 o.room ∧ ∀ s ∈ o.spans, M18 s.1 ∧ M18 s.2 := fun o ho => by
  have ho2 := hw.2 o ho
  simp only [optOkB, Bool.and_eq_true, decide_eq_true_eq] at ho2
  exact ⟨by unfold M18; omega, normal_m18 ho2.2⟩
 refine ⟨⟨hmt.i64, fun p h => (hp p h).i64, by omega, fun o h => ?_, by omega⟩, hmt, hp, ho⟩
 have := hb2.2 o h
 exact ⟨(ho o h).1.i64, fun s hs => ⟨((ho o h).2 s hs).1.i64, ((ho o h).2 s hs).2.i64⟩, by omega⟩
theorem made34_m18 {l : List RawD} (hok : RawsOk l) : ∀ x ∈ made34 l, Sized18 x := sized18_valid (made34_valid hok) fun x hx => by
 unfold made34 at hx
 split at hx
 ·have : x = ⟨1, [], [⟨0, 0, []⟩]⟩ := by simpa [madeT] using hx
  rw [this]
  decide
 ·obtain ⟨j, y, h1, h2, rfl⟩ := made34From_mem hx
  show (10 : Int) + j ≤ _
  omega
def MatchCon (S : List Int) (X Y : List UInt8) (k : Nat) (v : Value) (W : World) : Prop :=
 (k = 59 ∨ k = 64 → Ints W v S) ∧ (k = 4 ∨ k = 19 → v = .bool true) ∧ (k = 49 ∨ k = 52 → v = .string ⟨X.toArray⟩) ∧ (k = 60 ∨ k = 65 → v = .string ⟨Y.toArray⟩)
theorem MatchCon.ext {S : List Int} {X Y : List UInt8} {k : Nat} {v : Value} {W W' : World} (h : MatchCon S X Y k v W) (e : Ext W W') : MatchCon S X Y k v W' := ⟨fun hk => (h.1 hk).ext e, h.2⟩
def TwoCon (S : List Int) (q : Bool) (k : Nat) (v : Value) (W : World) : Prop := (k = 3 → Ints W v S) ∧ (k = 4 → v = .tuple #[.bool q, .int .i64 0])
set_option maxHeartbeats 12800000 in
set_option maxRecDepth 100000 in
theorem coreMatchesReference_calls (va : Value) (l : List RawD) (vr : Value) (raw : List Int) (n : Int) (hn0 : 0 ≤ n) (hn1 : n ≤ 255) (w : World) (hl : Raws w va l) (hraw : Ints w vr raw) (hTab : Tab10 w) :
  Calls Tryz.prog 3 #[va, vr, .int .u8 n] w fun e w' => e = .returned (.bool true) ∧ Ext w w' := by
 have hok := hl.ok
 obtain ⟨T, hTd⟩ : ∃ T, Hid (made34 l = T) := ⟨_, rfl⟩
 have hs : SmallT T := hTd.out ▸ made34_small hok
 have hv : validT T = 0 := hTd.out ▸ made34_valid hok
 have hlen : 0 < T.length ∧ T.length ≤ 6 := hTd.out ▸ made34_len (l := l)
 obtain ⟨hlen0, hlen6⟩ := hlen
 have hs' := Lib.hid hs
 have hv' := Lib.hid hv
 have hRw := Lib.hid hl
 have hTb := Lib.hid hTab
 obtain ⟨lA, lC, rfl, _, _, _⟩ := hl.open
 obtain ⟨L, hof, _, _⟩ := of_is hs hv
 obtain ⟨S, hSd⟩ : ∃ S, Hid (peopleTo n T.length = S) := ⟨_, rfl⟩
 have hSs : Hid (S <+ upI T.length) := Lib.hid (hSd.out ▸ peopleTo_sub n T.length)
 obtain ⟨q, hqd⟩ : ∃ q, Hid (selSt T S = q) := ⟨_, rfl⟩
 have hst : Hid (StandsT T S = (q, 0)) := Lib.hid (by rw [StandsT_sel hs hv hSs.out, hqd.out])
 obtain ⟨A, hAd⟩ : ∃ A, Hid (allC T = A) := ⟨_, rfl⟩
 obtain ⟨ok, hokd⟩ : ∃ ok, Hid ((!standB T) = ok) := ⟨_, rfl⟩
 have hof' : Hid (ofT T = (L, ok, 0)) := Lib.hid (by rw [hof, hokd.out])
 obtain ⟨FW, hFW⟩ : ∃ FW, Hid (raw.take 10 = FW) := ⟨_, rfl⟩
 obtain ⟨p, ep, hpq⟩ : ∃ p ep, Hid (StandsT T FW = (p, ep)) := ⟨_, _, rfl⟩
 obtain ⟨X, hX⟩ : ∃ X, Hid (textT T FW = X) := ⟨_, rfl⟩
 obtain ⟨Y, hY⟩ : ∃ Y, Hid (textT T S = Y) := ⟨_, rfl⟩
 have hsz : Hid (∀ x ∈ T, Sized18 x) := Lib.hid (hTd.out ▸ made34_m18 hok)
 obtain ⟨rA, rC, rfl⟩ := hraw.form
 have hA := Lib.hid hraw
 clear hok hof hl hTab hs hv hokd hqd hraw
 go_enter Tryz.func3, Tryz.ntmps3
 go_wp2_with fail
 refine (sanity34_calls _ (hTb.out.ext (by exact (by with_reducible repeat' (first | exact Ext.refl _ | assumption | refine Ext.drewN ?_ _ | refine Ext.drew ?_ | refine Ext.alloc ?_ _ | refine Ext.trans ?_ (by with_reducible assumption)))))).mono ?_
 rintro e w1 ⟨rfl, hx⟩
 have hE := Lib.hid (show Ext w w1 from Ext.trans (by exact (by with_reducible repeat' (first | exact Ext.refl _ | assumption | refine Ext.drewN ?_ _ | refine Ext.drew ?_ | refine Ext.alloc ?_ _ | refine Ext.trans ?_ (by with_reducible assumption)))) hx)
 replace hTb := Lib.hid (hTb.out.ext hE.out)
 replace hRw := Lib.hid (hRw.out.ext hE.out)
 replace hA := Lib.hid (hA.out.ext hE.out)
 clear hx
 go_wp2_with fail
 refine (made34_calls _ l w1 hRw.out).mono ?_
 rw [hTd.out]
 rintro e w2 ⟨tv, rfl, ht, hq⟩
 have ht2 := ht.read
 obtain ⟨ta, tc, rfl⟩ := ht2.form
 have hTw := Lib.hid ht2
 replace hTb := Lib.hid (hTb.out.ext hq)
 replace hE := Lib.hid (hE.out.trans hq)
 replace hA := Lib.hid (hA.out.ext hq)
 clear ht ht2 hq hRw
 have hlr := hA.out.len
 obtain ⟨_, _, e8, hcap, hcap2, _⟩ := hA.out.open
 cases e8
 go_upto_region 4 with (fail)
 obtain ⟨km, hkm⟩ : ∃ km : Nat, Hid ((min (raw.length : Int) 10).toNat = km) := ⟨_, rfl⟩
 have hkm1 : km = min 10 raw.length := by rw [← hkm.out]; omega
 rw [hkm.out]
 clear hkm
 have hL : Hid (Ints w2 (.slice rA km rC) FW) := by
  have := hA.out.take (m := km) (by omega)
  have e : raw.take km = raw.take 10 := by rw [List.take_eq_take_iff]; omega
  show Ints _ _ _
  rwa [e, hFW.out] at this
 obtain ⟨rA', rC', e9⟩ := hL.out.form
 obtain rfl : km = FW.length := by injection e9
 clear e9 hkm1 hFW hA hlr hcap hcap2
 (try generalize (min (raw.length : Int) 10) = kz)
 refine wp_abs (S := fun W => Hid (Ext w2 W) ∧ Hid (Blk W w2.heap.size 27 #[.slice ta T.length tc])) ?_ ?_
 ·exact ⟨Lib.hid (by exact (by with_reducible repeat' (first | exact Ext.refl _ | assumption | refine Ext.drewN ?_ _ | refine Ext.drew ?_ | refine Ext.alloc ?_ _ | refine Ext.trans ?_ (by with_reducible assumption)))), Lib.hid (by first | exact blk_new' rfl rfl | exact (blk_new' (by simp) rfl).set_ 0 _ | exact (Blk.new _ _ _).set_ 0 _)⟩
 rintro w3 ⟨hq0, hB⟩
 have hq := hq0.out
 clear hq0
 replace hTw := Lib.hid (hTw.out.ext hq)
 replace hTb := Lib.hid (hTb.out.ext hq)
 replace hL := Lib.hid (hL.out.ext hq)
 replace hE := Lib.hid (hE.out.trans hq)
 clear hq
 have b0 : w3.cell? ⟨w2.heap.size, 0, none⟩ = some (.slice ta T.length tc) := hB.out.cell 0
 have bl := hB.out.lt
 go_wp2_with fail
 refine (of_calls (.slice ta T.length tc) T w3 hTw.out).mono ?_
 rw [hof'.out]
 rintro e w4 ⟨lv, rfl, hlv, hq⟩
 obtain ⟨la, lc, rfl⟩ := hlv.form
 clear b0 bl
 have hN := Lib.hid hlv
 replace hN := Lib.hid (hlv.ext (Ext.refl _))
 replace hTw := Lib.hid (hTw.out.ext hq)
 replace hTb := Lib.hid (hTb.out.ext hq)
 replace hL := Lib.hid (hL.out.ext hq)
 replace hB := Lib.hid ((Keep.of_ext (X := fun _ => False) hq).blk hB.out id)
 replace hE := Lib.hid (hE.out.trans hq)
 clear hlv hq
 have b0 : w4.cell? ⟨w2.heap.size, 0, none⟩ = some (.slice ta T.length tc) := hB.out.cell 0
 have bl := hB.out.lt
 go_wp2_with fail
 refine (rOf_calls (.slice ta T.length tc) T w4 hTw.out).mono ?_
 rw [hof'.out]
 rintro e w5 ⟨lv2, rfl, hlv, hq⟩
 obtain ⟨lb, ld, rfl⟩ := hlv.form
 clear b0 bl
 (try replace hRw := Lib.hid (hRw.out.ext hq))
 (try replace hTw := Lib.hid (hTw.out.ext hq))
 (try replace hL := Lib.hid (hL.out.ext hq))
 (try replace hS := Lib.hid (hS.out.ext hq))
 (try replace hS2 := Lib.hid (hS2.out.ext hq))
 (try replace hA := Lib.hid (hA.out.ext hq))
 (try replace hC := Lib.hid (hC.out.ext hq))
 (try replace hN := Lib.hid (hN.out.ext hq))
 (try replace hTb := Lib.hid (hTb.out.ext hq))
 (try replace hB := Lib.hid ((Keep.of_ext (X := fun _ => False) hq).blk hB.out id))
 (try replace hX := Lib.hid ((Keep.of_ext (X := fun _ => False) hq).blk hX.out id))
 replace hE := Lib.hid (hE.out.trans hq)
 clear hq
 have hC := Lib.hid hlv
 clear hlv
 have b0 : w5.cell? ⟨w2.heap.size, 0, none⟩ = some (.slice ta T.length tc) := hB.out.cell 0
 have bl := hB.out.lt
 go_wp2_with fail
 refine (all_calls (.slice ta T.length tc) T w5 hTw.out hs'.out hv'.out).mono ?_
 rw [show (sels T.length).filter (coreB T) = A from hAd.out]
 rintro e w6 ⟨av, rfl, ha, hq⟩
 obtain ⟨aa, ac, rfl⟩ := ha.form
 clear b0 bl
 (try replace hRw := Lib.hid (hRw.out.ext hq))
 (try replace hTw := Lib.hid (hTw.out.ext hq))
 (try replace hL := Lib.hid (hL.out.ext hq))
 (try replace hS := Lib.hid (hS.out.ext hq))
 (try replace hS2 := Lib.hid (hS2.out.ext hq))
 (try replace hA := Lib.hid (hA.out.ext hq))
 (try replace hC := Lib.hid (hC.out.ext hq))
 (try replace hN := Lib.hid (hN.out.ext hq))
 (try replace hTb := Lib.hid (hTb.out.ext hq))
 (try replace hB := Lib.hid ((Keep.of_ext (X := fun _ => False) hq).blk hB.out id))
 (try replace hX := Lib.hid ((Keep.of_ext (X := fun _ => False) hq).blk hX.out id))
 replace hE := Lib.hid (hE.out.trans hq)
 clear hq
 have hS := Lib.hid ha
 clear ha
 have b0 : w6.cell? ⟨w2.heap.size, 0, none⟩ = some (.slice ta T.length tc) := hB.out.cell 0
 have bl := hB.out.lt
 go_wp2_with fail
 refine (rAll_calls (.slice ta T.length tc) T w6 hTw.out hs'.out hv'.out).mono ?_
 rw [hAd.out]
 rintro e w7 ⟨dv, rfl, hd, hq⟩
 obtain ⟨da, dc, rfl⟩ := hd.form
 clear b0 bl
 (try replace hRw := Lib.hid (hRw.out.ext hq))
 (try replace hTw := Lib.hid (hTw.out.ext hq))
 (try replace hL := Lib.hid (hL.out.ext hq))
 (try replace hS := Lib.hid (hS.out.ext hq))
 (try replace hS2 := Lib.hid (hS2.out.ext hq))
 (try replace hA := Lib.hid (hA.out.ext hq))
 (try replace hC := Lib.hid (hC.out.ext hq))
 (try replace hN := Lib.hid (hN.out.ext hq))
 (try replace hTb := Lib.hid (hTb.out.ext hq))
 (try replace hB := Lib.hid ((Keep.of_ext (X := fun _ => False) hq).blk hB.out id))
 (try replace hX := Lib.hid ((Keep.of_ext (X := fun _ => False) hq).blk hX.out id))
 replace hE := Lib.hid (hE.out.trans hq)
 clear hq
 have hS2 := Lib.hid hd
 clear hd
 have b0 : w7.cell? ⟨w2.heap.size, 0, none⟩ = some (.slice ta T.length tc) := hB.out.cell 0
 have bl := hB.out.lt
 go_wp2_with fail
 refine (Stands_calls (.slice ta T.length tc) (.slice rA FW.length rC) T FW w7 hTw.out hL.out).mono ?_
 rw [hpq.out]
 rintro e w8 ⟨rfl, hq⟩
 clear b0 bl
 (try replace hRw := Lib.hid (hRw.out.ext hq))
 (try replace hTw := Lib.hid (hTw.out.ext hq))
 (try replace hL := Lib.hid (hL.out.ext hq))
 (try replace hS := Lib.hid (hS.out.ext hq))
 (try replace hS2 := Lib.hid (hS2.out.ext hq))
 (try replace hA := Lib.hid (hA.out.ext hq))
 (try replace hC := Lib.hid (hC.out.ext hq))
 (try replace hN := Lib.hid (hN.out.ext hq))
 (try replace hTb := Lib.hid (hTb.out.ext hq))
 (try replace hB := Lib.hid ((Keep.of_ext (X := fun _ => False) hq).blk hB.out id))
 (try replace hX := Lib.hid ((Keep.of_ext (X := fun _ => False) hq).blk hX.out id))
 replace hE := Lib.hid (hE.out.trans hq)
 clear hq
 have b0 : w8.cell? ⟨w2.heap.size, 0, none⟩ = some (.slice ta T.length tc) := hB.out.cell 0
 have bl := hB.out.lt
 go_wp2_with fail
 refine (rStands_calls (.slice ta T.length tc) (.slice rA FW.length rC) T FW w8 hTw.out hL.out).mono ?_
 rw [hpq.out]
 rintro e w9 ⟨rfl, hq⟩
 clear b0 bl
 (try replace hRw := Lib.hid (hRw.out.ext hq))
 (try replace hTw := Lib.hid (hTw.out.ext hq))
 (try replace hL := Lib.hid (hL.out.ext hq))
 (try replace hS := Lib.hid (hS.out.ext hq))
 (try replace hS2 := Lib.hid (hS2.out.ext hq))
 (try replace hA := Lib.hid (hA.out.ext hq))
 (try replace hC := Lib.hid (hC.out.ext hq))
 (try replace hN := Lib.hid (hN.out.ext hq))
 (try replace hTb := Lib.hid (hTb.out.ext hq))
 (try replace hB := Lib.hid ((Keep.of_ext (X := fun _ => False) hq).blk hB.out id))
 (try replace hX := Lib.hid ((Keep.of_ext (X := fun _ => False) hq).blk hX.out id))
 replace hE := Lib.hid (hE.out.trans hq)
 clear hq
 go_upto_region 10 with (fail)
 have z0 := After.cell (show w9.cell? ⟨w2.heap.size, 0, none⟩ = some (.slice ta T.length tc) from hB.out.cell 0)
 (refine wp_region_held [] [0, 1, 2, 3, 4, 5, 6, 7, 8, 9] [] (TwoCon S q) (by kernel_rfl) (by kernel_rfl) ?_; simp only [pickL]; with_reducible refine wpQuiet_nil ?_)
 (refine held_quiet [0, 1, 2] [3, 4, 5, 6, 7, 8, 9] (by kernel_rfl) (by kernel_rfl) ?_; simp only [pickL, List.drop]; (repeat (go_big_quiet_step (fail))); with_reducible refine wpQuiet_nil ?_)
 (refine held_call 3 [4, 5, 6, 7, 8, 9] rfl (by kernel_rfl) 14 (#[.agg #[.slice ta T.length tc], .int .u8 n]) (fun W => by kernel_rfl) rfl ?_ ?_ ?_)
 ·exact fun W W' v e hh => ⟨fun h => (hh.1 h).ext e, hh.2⟩
 ·refine fun W hW _ => (selection_calls (.slice ta T.length tc) T n W (hTw.out.ext hW) ⟨hn0, hn1⟩ hlen6).mono ?_
  rw [hSd.out]
  rintro e W' ⟨v, rfl, hv, hxx⟩
  exact ⟨_, rfl, hxx, ⟨fun _ => hv.read, (fun h => by cases h)⟩⟩
 rintro v ⟨Z, hZ, hCv⟩
 obtain ⟨sA, sC, rfl⟩ := (hCv.1 rfl).form
 clear hCv hZ Z
 simp only [Act.put, List.setIfInBounds_toArray, List.set_cons_succ, List.set_cons_zero]
 (refine held_call 4 [5, 6, 7, 8, 9] rfl (by kernel_rfl) 12 (#[.agg #[.slice ta T.length tc], .slice sA S.length sC]) (fun W => by kernel_rfl) rfl ?_ ?_ ?_)
 ·exact fun W W' v e hh => ⟨fun h => (hh.1 h).ext e, hh.2⟩
 ·refine fun W hW hD => (Stands_calls _ _ T S W (hTw.out.ext hW) (((hD 3 (dep_of 10 4 3 (by kernel_rfl))).2 rfl).1 rfl)).mono ?_
  rw [hst.out]
  rintro e W' ⟨rfl, hxx⟩
  exact ⟨_, rfl, hxx, ⟨(fun h => by cases h), fun _ => rfl⟩⟩
 rintro v ⟨Z, hZ, hCv⟩
 obtain rfl := hCv.2 rfl
 clear hCv hZ Z
 simp only [Act.put, List.setIfInBounds_toArray, List.set_cons_succ, List.set_cons_zero]
 (refine held_quiet [5, 6, 7, 8, 9] [] (by kernel_rfl) (by kernel_rfl) ?_; simp only [pickL, List.drop]; (repeat (go_big_quiet_step (fail))); with_reducible refine wpQuiet_nil ?_)
 intro w10 hx10 hfc htk Q0 hQ0
 simp only [pickL]
 have hq := hx10
 clear hfc htk z0 hx10
 refine hQ0 _ _ ?_
 clear hQ0 Q0
 (try replace hRw := Lib.hid (hRw.out.ext hq))
 (try replace hTw := Lib.hid (hTw.out.ext hq))
 (try replace hL := Lib.hid (hL.out.ext hq))
 (try replace hS := Lib.hid (hS.out.ext hq))
 (try replace hS2 := Lib.hid (hS2.out.ext hq))
 (try replace hA := Lib.hid (hA.out.ext hq))
 (try replace hC := Lib.hid (hC.out.ext hq))
 (try replace hN := Lib.hid (hN.out.ext hq))
 (try replace hTb := Lib.hid (hTb.out.ext hq))
 (try replace hB := Lib.hid ((Keep.of_ext (X := fun _ => False) hq).blk hB.out id))
 (try replace hX := Lib.hid ((Keep.of_ext (X := fun _ => False) hq).blk hX.out id))
 replace hE := Lib.hid (hE.out.trans hq)
 clear hq
 go_upto_region 11 with (fail)
 have z0 := After.cell (show w10.cell? ⟨w2.heap.size, 0, none⟩ = some (.slice ta T.length tc) from hB.out.cell 0)
 (refine wp_region_held [] [0, 1, 2, 3, 4, 5, 6, 7, 8, 9] [] (TwoCon S q) (by kernel_rfl) (by kernel_rfl) ?_; simp only [pickL]; with_reducible refine wpQuiet_nil ?_)
 (refine held_quiet [0, 1, 2] [3, 4, 5, 6, 7, 8, 9] (by kernel_rfl) (by kernel_rfl) ?_; simp only [pickL, List.drop]; (repeat (go_big_quiet_step (fail))); with_reducible refine wpQuiet_nil ?_)
 (refine held_call 3 [4, 5, 6, 7, 8, 9] rfl (by kernel_rfl) 14 (#[.agg #[.slice ta T.length tc], .int .u8 n]) (fun W => by kernel_rfl) rfl ?_ ?_ ?_)
 ·exact fun W W' v e hh => ⟨fun h => (hh.1 h).ext e, hh.2⟩
 ·refine fun W hW _ => (selection_calls (.slice ta T.length tc) T n W (hTw.out.ext hW) ⟨hn0, hn1⟩ hlen6).mono ?_
  rw [hSd.out]
  rintro e W' ⟨v, rfl, hv, hxx⟩
  exact ⟨_, rfl, hxx, ⟨fun _ => hv.read, (fun h => by cases h)⟩⟩
 rintro v ⟨Z, hZ, hCv⟩
 obtain ⟨sA, sC, rfl⟩ := (hCv.1 rfl).form
 clear hCv hZ Z
 simp only [Act.put, List.setIfInBounds_toArray, List.set_cons_succ, List.set_cons_zero]
 (refine held_call 4 [5, 6, 7, 8, 9] rfl (by kernel_rfl) 13 (#[.agg #[.slice ta T.length tc], .slice sA S.length sC]) (fun W => by kernel_rfl) rfl ?_ ?_ ?_)
 ·exact fun W W' v e hh => ⟨fun h => (hh.1 h).ext e, hh.2⟩
 ·refine fun W hW hD => (rStands_calls _ _ T S W (hTw.out.ext hW) (((hD 3 (dep_of 10 4 3 (by kernel_rfl))).2 rfl).1 rfl)).mono ?_
  rw [hst.out]
  rintro e W' ⟨rfl, hxx⟩
  exact ⟨_, rfl, hxx, ⟨(fun h => by cases h), fun _ => rfl⟩⟩
 rintro v ⟨Z, hZ, hCv⟩
 obtain rfl := hCv.2 rfl
 clear hCv hZ Z
 simp only [Act.put, List.setIfInBounds_toArray, List.set_cons_succ, List.set_cons_zero]
 (refine held_quiet [5, 6, 7, 8, 9] [] (by kernel_rfl) (by kernel_rfl) ?_; simp only [pickL, List.drop]; (repeat (go_big_quiet_step (fail))); with_reducible refine wpQuiet_nil ?_)
 intro w11 hx11 hfc htk Q0 hQ0
 simp only [pickL]
 have hq := hx11
 clear hfc htk z0 hx11
 refine hQ0 _ _ ?_
 clear hQ0 Q0
 (try replace hRw := Lib.hid (hRw.out.ext hq))
 (try replace hTw := Lib.hid (hTw.out.ext hq))
 (try replace hL := Lib.hid (hL.out.ext hq))
 (try replace hS := Lib.hid (hS.out.ext hq))
 (try replace hS2 := Lib.hid (hS2.out.ext hq))
 (try replace hA := Lib.hid (hA.out.ext hq))
 (try replace hC := Lib.hid (hC.out.ext hq))
 (try replace hN := Lib.hid (hN.out.ext hq))
 (try replace hTb := Lib.hid (hTb.out.ext hq))
 (try replace hB := Lib.hid ((Keep.of_ext (X := fun _ => False) hq).blk hB.out id))
 (try replace hX := Lib.hid ((Keep.of_ext (X := fun _ => False) hq).blk hX.out id))
 replace hE := Lib.hid (hE.out.trans hq)
 clear hq
 go_upto_region 12 with (fail)
 have z0 := After.cell (show w11.cell? ⟨w2.heap.size, 0, none⟩ = some (.slice ta T.length tc) from hB.out.cell 0)
 simp only [List.append]
 (refine wp_region_held [] (0 :: 1 :: 2 :: 3 :: 4 :: 5 :: 6 :: 7 :: 8 :: 9 :: 10 :: 11 :: 12 :: 13 :: 14 :: 15 :: 16 :: 17 :: 18 :: 19 :: 20 :: 21 :: 22 :: 23 :: 24 :: 25 :: 26 :: 27 :: 28 :: 29 :: 30 :: 31 :: 32 :: 33 :: 34 :: 35 :: 36 :: 37 :: 38 :: 39 :: 40 :: 41 :: 42 :: 43 :: 44 :: 45 :: 46 :: 47 :: 48 :: 49 :: 50 :: 51 :: 52 :: 53 :: 54 :: 55 :: 56 :: 57 :: 58 :: 59 :: 60 :: 61 :: 62 :: 63 :: 64 :: 65 :: 66 :: 67 :: 68 :: []) [] (MatchCon S X Y) (by kernel_rfl) (by kernel_rfl) ?_; simp only [pickL]; with_reducible refine wpQuiet_nil ?_)
 (refine held_quiet [0, 1, 2, 3] (4 :: 5 :: 6 :: 7 :: 8 :: 9 :: 10 :: 11 :: 12 :: 13 :: 14 :: 15 :: 16 :: 17 :: 18 :: 19 :: 20 :: 21 :: 22 :: 23 :: 24 :: 25 :: 26 :: 27 :: 28 :: 29 :: 30 :: 31 :: 32 :: 33 :: 34 :: 35 :: 36 :: 37 :: 38 :: 39 :: 40 :: 41 :: 42 :: 43 :: 44 :: 45 :: 46 :: 47 :: 48 :: 49 :: 50 :: 51 :: 52 :: 53 :: 54 :: 55 :: 56 :: 57 :: 58 :: 59 :: 60 :: 61 :: 62 :: 63 :: 64 :: 65 :: 66 :: 67 :: 68 :: []) (by kernel_rfl) (by kernel_rfl) ?_; simp only [pickL, List.drop]; (repeat (go_big_quiet_step (fail))); with_reducible refine wpQuiet_nil ?_)
 (refine held_call 4 (5 :: 6 :: 7 :: 8 :: 9 :: 10 :: 11 :: 12 :: 13 :: 14 :: 15 :: 16 :: 17 :: 18 :: 19 :: 20 :: 21 :: 22 :: 23 :: 24 :: 25 :: 26 :: 27 :: 28 :: 29 :: 30 :: 31 :: 32 :: 33 :: 34 :: 35 :: 36 :: 37 :: 38 :: 39 :: 40 :: 41 :: 42 :: 43 :: 44 :: 45 :: 46 :: 47 :: 48 :: 49 :: 50 :: 51 :: 52 :: 53 :: 54 :: 55 :: 56 :: 57 :: 58 :: 59 :: 60 :: 61 :: 62 :: 63 :: 64 :: 65 :: 66 :: 67 :: 68 :: []) rfl (by kernel_rfl) 15 (#[.slice la L.length lc, .slice lb L.length ld]) (fun W => by kernel_rfl) rfl ?_ ?_ ?_)
 ·exact fun W W' v e hh => hh.ext e
 ·refine fun W hW hD => (rNumbers34_calls _ _ L L W (hN.out.ext hW) (hC.out.ext hW)).mono ?_
  rintro e W' ⟨rfl, hxx⟩
  exact ⟨_, rfl, hxx, (fun h => by rcases h with h | h <;> cases h), (fun _ => by simp), (fun h => by rcases h with h | h <;> cases h), (fun h => by rcases h with h | h <;> cases h)⟩
 rintro v ⟨Z, hZ, hCv⟩
 obtain rfl := hCv.2.1 (by simp)
 clear hCv hZ Z
 simp only [Act.put, List.setIfInBounds_toArray, List.set_cons_succ, List.set_cons_zero]
 (refine held_quiet [5, 6, 7, 8, 9, 10, 11, 12, 13, 14, 15, 16, 17, 18] [19, 20, 21, 22, 23, 24, 25, 26, 27, 28, 29, 30, 31, 32, 33, 34, 35, 36, 37, 38, 39, 40, 41, 42, 43, 44, 45, 46, 47, 48, 49, 50, 51, 52, 53, 54, 55, 56, 57, 58, 59, 60, 61, 62, 63, 64, 65, 66, 67, 68] (by kernel_rfl) (by kernel_rfl) ?_; simp only [pickL, List.drop]; (repeat (go_big_quiet_step (fail))); with_reducible refine wpQuiet_nil ?_)
 (refine held_call 19 [20, 21, 22, 23, 24, 25, 26, 27, 28, 29, 30, 31, 32, 33, 34, 35, 36, 37, 38, 39, 40, 41, 42, 43, 44, 45, 46, 47, 48, 49, 50, 51, 52, 53, 54, 55, 56, 57, 58, 59, 60, 61, 62, 63, 64, 65, 66, 67, 68] rfl (by kernel_rfl) 16 (#[.slice aa A.length ac, .slice da A.length dc]) (fun W => by kernel_rfl) rfl ?_ ?_ ?_)
 ·exact fun W W' v e hh => hh.ext e
 ·refine fun W hW hD => (lists34_calls _ _ A A W (hS.out.ext hW) (hS2.out.ext hW)).mono ?_
  rintro e W' ⟨rfl, hxx⟩
  exact ⟨_, rfl, hxx, (fun h => by rcases h with h | h <;> cases h), (fun _ => by simp), (fun h => by rcases h with h | h <;> cases h), (fun h => by rcases h with h | h <;> cases h)⟩
 rintro v ⟨Z, hZ, hCv⟩
 obtain rfl := hCv.2.1 (by simp)
 clear hCv hZ Z
 simp only [Act.put, List.setIfInBounds_toArray, List.set_cons_succ, List.set_cons_zero]
 (refine held_quiet [20, 21, 22, 23, 24, 25, 26, 27, 28, 29, 30, 31, 32, 33, 34, 35, 36, 37, 38, 39, 40, 41, 42, 43, 44, 45, 46, 47, 48] [49, 50, 51, 52, 53, 54, 55, 56, 57, 58, 59, 60, 61, 62, 63, 64, 65, 66, 67, 68] (by kernel_rfl) (by kernel_rfl) ?_; simp only [pickL, List.drop]; (repeat (go_big_quiet_step (fail))); with_reducible refine wpQuiet_nil ?_)
 (refine held_call 49 [50, 51, 52, 53, 54, 55, 56, 57, 58, 59, 60, 61, 62, 63, 64, 65, 66, 67, 68] rfl (by kernel_rfl) 17 (#[.agg #[.slice ta T.length tc], .slice rA FW.length rC]) (fun W => by kernel_rfl) rfl ?_ ?_ ?_)
 ·exact fun W W' v e hh => hh.ext e
 ·refine fun W hW hD => (text_calls _ _ T FW W (hTw.out.ext hW) (hL.out.ext hW) (fun hv x hx => (hsz.out x hx).sized) (hTb.out.ext hW)).mono ?_
  rw [hX.out]
  rintro e W' ⟨S9, rfl, hS9, hxx⟩
  exact ⟨_, rfl, hxx, (fun h => by rcases h with h | h <;> cases h), (fun h => by rcases h with h | h <;> cases h), (fun _ => by rw [show S9 = _ from hS9]), (fun h => by rcases h with h | h <;> cases h)⟩
 rintro v ⟨Z, hZ, hCv⟩
 obtain rfl := hCv.2.2.1 (by simp)
 clear hCv hZ Z
 simp only [Act.put, List.setIfInBounds_toArray, List.set_cons_succ, List.set_cons_zero]
 (refine held_quiet [50, 51] [52, 53, 54, 55, 56, 57, 58, 59, 60, 61, 62, 63, 64, 65, 66, 67, 68] (by kernel_rfl) (by kernel_rfl) ?_; simp only [pickL, List.drop]; (repeat (go_big_quiet_step (fail))); with_reducible refine wpQuiet_nil ?_)
 (refine held_call 52 [53, 54, 55, 56, 57, 58, 59, 60, 61, 62, 63, 64, 65, 66, 67, 68] rfl (by kernel_rfl) 18 (#[.agg #[.slice ta T.length tc], .slice rA FW.length rC]) (fun W => by kernel_rfl) rfl ?_ ?_ ?_)
 ·exact fun W W' v e hh => hh.ext e
 ·refine fun W hW hD => (rText_calls _ _ T FW W (hTw.out.ext hW) (hL.out.ext hW) (fun hv x hx => hsz.out x hx)).mono ?_
  rw [hX.out]
  rintro e W' ⟨S9, rfl, hS9, hxx⟩
  exact ⟨_, rfl, hxx, (fun h => by rcases h with h | h <;> cases h), (fun h => by rcases h with h | h <;> cases h), (fun _ => by rw [show S9 = _ from hS9]), (fun h => by rcases h with h | h <;> cases h)⟩
 rintro v ⟨Z, hZ, hCv⟩
 obtain rfl := hCv.2.2.1 (by simp)
 clear hCv hZ Z
 simp only [Act.put, List.setIfInBounds_toArray, List.set_cons_succ, List.set_cons_zero]
 (refine held_quiet [53, 54, 55, 56, 57, 58] [59, 60, 61, 62, 63, 64, 65, 66, 67, 68] (by kernel_rfl) (by kernel_rfl) ?_; simp only [pickL, List.drop]; (repeat (go_big_quiet_step (fail))); with_reducible refine wpQuiet_nil ?_)
 (refine held_call 59 [60, 61, 62, 63, 64, 65, 66, 67, 68] rfl (by kernel_rfl) 14 (#[.agg #[.slice ta T.length tc], .int .u8 n]) (fun W => by kernel_rfl) rfl ?_ ?_ ?_)
 ·exact fun W W' v e hh => hh.ext e
 ·refine fun W hW hD => (selection_calls (.slice ta T.length tc) T n W (hTw.out.ext hW) ⟨hn0, hn1⟩ hlen6).mono ?_
  rw [hSd.out]
  rintro e W' ⟨v, rfl, hv, hxx⟩
  exact ⟨_, rfl, hxx, (fun _ => hv.read), (fun h => by rcases h with h | h <;> cases h), (fun h => by rcases h with h | h <;> cases h), (fun h => by rcases h with h | h <;> cases h)⟩
 rintro v ⟨Z, hZ, hCv⟩
 obtain ⟨s2, c2, rfl⟩ := (hCv.1 (by simp)).form
 clear hCv hZ Z
 simp only [Act.put, List.setIfInBounds_toArray, List.set_cons_succ, List.set_cons_zero]
 (refine held_call 60 [61, 62, 63, 64, 65, 66, 67, 68] rfl (by kernel_rfl) 17 (#[.agg #[.slice ta T.length tc], .slice s2 S.length c2]) (fun W => by kernel_rfl) rfl ?_ ?_ ?_)
 ·exact fun W W' v e hh => hh.ext e
 ·refine fun W hW hD => (text_calls _ _ T S W (hTw.out.ext hW) (((hD 59 (dep_of 1 60 59 (by kernel_rfl))).2 rfl).1 (by simp)) (fun hv x hx => (hsz.out x hx).sized) (hTb.out.ext hW)).mono ?_
  rw [hY.out]
  rintro e W' ⟨S9, rfl, hS9, hxx⟩
  exact ⟨_, rfl, hxx, (fun h => by rcases h with h | h <;> cases h), (fun h => by rcases h with h | h <;> cases h), (fun h => by rcases h with h | h <;> cases h), (fun _ => by rw [show S9 = _ from hS9])⟩
 rintro v ⟨Z, hZ, hCv⟩
 obtain rfl := hCv.2.2.2 (by simp)
 clear hCv hZ Z
 simp only [Act.put, List.setIfInBounds_toArray, List.set_cons_succ, List.set_cons_zero]
 (refine held_quiet [61, 62, 63] [64, 65, 66, 67, 68] (by kernel_rfl) (by kernel_rfl) ?_; simp only [pickL, List.drop]; (repeat (go_big_quiet_step (fail))); with_reducible refine wpQuiet_nil ?_)
 (refine held_call 64 [65, 66, 67, 68] rfl (by kernel_rfl) 14 (#[.agg #[.slice ta T.length tc], .int .u8 n]) (fun W => by kernel_rfl) rfl ?_ ?_ ?_)
 ·exact fun W W' v e hh => hh.ext e
 ·refine fun W hW hD => (selection_calls (.slice ta T.length tc) T n W (hTw.out.ext hW) ⟨hn0, hn1⟩ hlen6).mono ?_
  rw [hSd.out]
  rintro e W' ⟨v, rfl, hv, hxx⟩
  exact ⟨_, rfl, hxx, (fun _ => hv.read), (fun h => by rcases h with h | h <;> cases h), (fun h => by rcases h with h | h <;> cases h), (fun h => by rcases h with h | h <;> cases h)⟩
 rintro v ⟨Z, hZ, hCv⟩
 obtain ⟨s3, c3, rfl⟩ := (hCv.1 (by simp)).form
 clear hCv hZ Z
 simp only [Act.put, List.setIfInBounds_toArray, List.set_cons_succ, List.set_cons_zero]
 (refine held_call 65 [66, 67, 68] rfl (by kernel_rfl) 18 (#[.agg #[.slice ta T.length tc], .slice s3 S.length c3]) (fun W => by kernel_rfl) rfl ?_ ?_ ?_)
 ·exact fun W W' v e hh => hh.ext e
 ·refine fun W hW hD => (rText_calls _ _ T S W (hTw.out.ext hW) (((hD 64 (dep_of 1 65 64 (by kernel_rfl))).2 rfl).1 (by simp)) (fun hv x hx => hsz.out x hx)).mono ?_
  rw [hY.out]
  rintro e W' ⟨S9, rfl, hS9, hxx⟩
  exact ⟨_, rfl, hxx, (fun h => by rcases h with h | h <;> cases h), (fun h => by rcases h with h | h <;> cases h), (fun h => by rcases h with h | h <;> cases h), (fun _ => by rw [show S9 = _ from hS9])⟩
 rintro v ⟨Z, hZ, hCv⟩
 obtain rfl := hCv.2.2.2 (by simp)
 clear hCv hZ Z
 simp only [Act.put, List.setIfInBounds_toArray, List.set_cons_succ, List.set_cons_zero]
 (refine held_quiet [66, 67, 68] [] (by kernel_rfl) (by kernel_rfl) ?_; simp only [pickL, List.drop]; (repeat (go_big_quiet_step (fail))); with_reducible refine wpQuiet_nil ?_)
 intro w12 hx12 hfc htk Q0 hQ0
 simp only [pickL]
 have hE9 := Lib.hid (hE.out.trans hx12)
 clear hfc htk z0 hx12
 refine hQ0 _ _ ?_
 clear hQ0 Q0
 go_wp2
 go_ret
 exact ⟨rfl, hE9.out⟩
end Go.Proofs.YtjglidlmpjmjeaaGreatDoor
