/- The law CoreTexts, walked: true for every list of raw wishes and every two numbers. -/
import Derived.Test.YtcpohkigbaechaaGreatDoorUG
import Derived.Test.YtcpohkigbaechaaGreatDoorUT
import Derived.Test.YtcpohkigbaechaaGreatDoorUH
import Derived.Laws.Strings
namespace Go.Proofs.YtcpohkigbaechaaGreatDoor
open Go.RowKit Go.Shelf List

theorem normal_i64 {l : List (Int × Int)} (h : normalB l = true) : ∀ s ∈ l, I64 s.1 ∧ I64 s.2 := fun s hs => by
  simp only [normalB, Bool.and_eq_true, rangedB, List.all_eq_true] at h
  have := h.2 s hs
  simp only [farB, Bool.not_eq_true', Bool.or_eq_false_iff, decide_eq_false_iff_not] at this
  unfold I64
  omega
theorem people_i64 : ∀ {l : List Int} {p : Option Int}, peopleB p l = true → ∀ x ∈ l, I64 x
  | [], _, _, _, hx => by cases hx
  | y :: l, p, h, x, hx => by
    simp only [peopleB, Bool.and_eq_true, decide_eq_true_eq] at h
    rcases List.mem_cons.1 hx with rfl | hx
    · unfold I64; omega
    · exact people_i64 h.2 x hx
/-- a valid task's wishes are small enough for a text, if the meetings' numbers fit -/
theorem sized_valid {t : List WishD} (hv : validT t = 0) (hm : ∀ x ∈ t, x.meeting ≤ 9223372036854775807) : ∀ x ∈ t, Sized x := fun x hx => by
  have hw := wishes_mem (valid_wishes hv) hx
  have hb := (validT_ok hv).1
  simp only [tooLargeB, Bool.or_eq_false_iff, decide_eq_false_iff_not, List.any_eq_false] at hb
  have hb2 := hb.2 x hx
  simp only [Bool.or_eq_true, decide_eq_true_eq, List.any_eq_true, not_or, not_exists, not_and] at hb2
  simp only [wishOkB, Bool.and_eq_true, decide_eq_true_eq, List.all_eq_true] at hw
  refine ⟨⟨by omega, hm x hx⟩, people_i64 hw.1.1.1, by omega, fun o ho => ?_, by omega⟩
  have ho2 := hw.2 o ho
  simp only [optOkB, Bool.and_eq_true, decide_eq_true_eq] at ho2
  have := hb2.2 o ho
  exact ⟨by unfold I64; omega, normal_i64 ho2.2, by omega⟩
theorem made34_sized {l : List RawD} (hok : RawsOk l) : ∀ x ∈ made34 l, Sized x := sized_valid (made34_valid hok) fun x hx => by
  unfold made34 at hx
  split at hx
  · have : x = ⟨1, [], [⟨0, 0, []⟩]⟩ := by simpa [madeT] using hx
    rw [this]
    decide
  · obtain ⟨j, y, h1, h2, rfl⟩ := made34From_mem hx
    show (10 : Int) + j ≤ _
    omega
theorem bs_at {B : ByteArray} {X : List UInt8} (h : BS B X) {i : Nat} (hi : i < B.size) (hx : i < X.length) : B[i] = X[i] := by
  subst h
  rfl
theorem nls_take {X : List UInt8} {i : Nat} (hx : i < X.length) : nls (X.take (i + 1)) = nls (X.take i) + (if X[i] = 10 then 1 else 0) := by
  rw [List.take_succ_eq_append_getElem hx, nls_app]
  congr 1
  unfold nls
  by_cases h : X[i] = 10 <;> simp [h]
set_option maxHeartbeats 6400000 in
set_option maxRecDepth 100000 in
theorem coreTexts_calls (va : Value) (l : List RawD) (vx : Value) (x : Int × Int) (w : World) (hl : Raws w va l) (hx2 : Two8V w vx x) (hTab : Tab10 w) :
    Calls Tryz.prog 9 #[va, vx] w fun e w' => e = .returned (.bool true) ∧ Ext w w' := by
  have hok := hl.ok
  obtain ⟨T, hTd⟩ : ∃ T, Hid (made34 l = T) := ⟨_, rfl⟩
  have hs : SmallT T := hTd.out ▸ made34_small hok
  have hv : validT T = 0 := hTd.out ▸ made34_valid hok
  have hlen : 0 < T.length ∧ T.length ≤ 6 := hTd.out ▸ made34_len (l := l)
  obtain ⟨hlen0, hlen6⟩ := hlen
  have hs' := Lib.hid hs
  have hv' := Lib.hid hv
  have hRw := Lib.hid hl
  have hTb := Lib.hid hTab
  obtain ⟨lA, lC, rfl, _, _, _⟩ := hl.open
  obtain ⟨x1, x2⟩ := x
  obtain ⟨rfl, hy1, hy2⟩ := hx2
  dsimp only at hy1 hy2 ⊢
  have hsz : Hid (∀ x ∈ T, Sized x) := Lib.hid (hTd.out ▸ made34_sized hok)
  obtain ⟨S, hSd⟩ : ∃ S, Hid (peopleTo x1 T.length = S) := ⟨_, rfl⟩
  have hSs : Hid (S <+ upI T.length) := Lib.hid (hSd.out ▸ peopleTo_sub x1 T.length)
  obtain ⟨S2, hSd2⟩ : ∃ S, Hid (peopleTo x2 T.length = S) := ⟨_, rfl⟩
  have hSs2 : Hid (S2 <+ upI T.length) := Lib.hid (hSd2.out ▸ peopleTo_sub x2 T.length)
  obtain ⟨X, hXd⟩ : ∃ X, Hid (textT T S = X) := ⟨_, rfl⟩
  obtain ⟨X2, hXd2⟩ : ∃ X, Hid (textT T S2 = X) := ⟨_, rfl⟩
  have hsame : Hid (S ≠ [] → (X = X2 ↔ S = S2)) := Lib.hid fun hne => by
    rw [← hXd.out, ← hXd2.out, ← hTd.out]
    exact text_same hok (by rw [hTd.out]; exact hSs.out) (by rw [hTd.out]; exact hSs2.out) hne
  have hlines : Hid (S ≠ [] → nls X = S.length + 1) := Lib.hid fun hne => by
    rw [← hXd.out]
    exact text_lines (checkI_sel hv hSs.out) hne
  have hnone : Hid (S = [] → X = []) := Lib.hid fun he => by
    rw [← hXd.out, he]
    unfold textT
    rw [if_pos (checkI_sel hv (List.nil_sublist _))]
    rfl
  have hSl : S.length ≤ 6 := by have := up_len hSs.out; omega
  clear hok hl hTab hs hv
  go_enter Tryz.func9, Tryz.ntmps9
  go_wp2_with fail
  refine (sanity34_calls _ (hTb.out.ext (by exact (by repeat' (first | (with_reducible exact Ext.refl _) | (with_reducible assumption) | (with_reducible refine Ext.drewN ?_ _) | (with_reducible refine Ext.drew ?_) | (with_reducible refine Ext.alloc ?_ _) | (with_reducible refine Ext.trans ?_ (by with_reducible assumption))))))).mono ?_
  rintro e w1 ⟨rfl, hx⟩
  have hE := Lib.hid (show Ext w w1 from Ext.trans (by exact (by repeat' (first | (with_reducible exact Ext.refl _) | (with_reducible assumption) | (with_reducible refine Ext.drewN ?_ _) | (with_reducible refine Ext.drew ?_) | (with_reducible refine Ext.alloc ?_ _) | (with_reducible refine Ext.trans ?_ (by with_reducible assumption))))) hx)
  replace hTb := Lib.hid (hTb.out.ext hE.out)
  replace hRw := Lib.hid (hRw.out.ext hE.out)
  have hX : Hid (Blk w1 w.heap.size 61 #[.int .u8 x1, .int .u8 x2]) := Lib.hid ((Keep.of_ext (X := fun _ => False) hx).blk (blk_new' rfl rfl) id)
  clear hx
  go_wp2_with fail
  refine (made34_calls _ l w1 hRw.out).mono ?_
  rw [hTd.out]
  rintro e w2 ⟨tv, rfl, ht, hq⟩
  have ht2 := ht.read
  obtain ⟨ta, tc, rfl⟩ := ht2.form
  have hTw := Lib.hid ht2
  replace hTb := Lib.hid (hTb.out.ext hq)
  replace hE := Lib.hid (hE.out.trans hq)
  (try replace hX := Lib.hid ((Keep.of_ext (X := fun _ => False) hq).blk hX.out id))
  clear ht ht2 hq hRw
  have x0 : w2.cell? ⟨w.heap.size, 0, none⟩ = some (.int .u8 x1) := hX.out.cell 0
  have xl := hX.out.lt
  go_wp2_with fail
  have hq0 := Lib.hid ((Ext.refl w2).alloc (.cells #[.slice ta T.length tc] 27))
  refine (selection_calls (.slice ta T.length tc) T x1 _ (hTw.out.ext hq0.out) hy1 hlen6).mono ?_
  rw [hSd.out]
  rintro e w3 ⟨sv, rfl, hsv, hx⟩
  obtain ⟨sa, sc, rfl⟩ := owns_form hsv
  have hS := Lib.hid hsv.read
  have hB : Hid (Blk w3 w2.heap.size 27 #[.slice ta T.length tc]) := Lib.hid ((Keep.of_ext (X := fun _ => False) hx).blk (blk_new' rfl rfl) id)
  have hq := hq0.out.trans hx
  clear hsv hx hq0 x0 xl
  replace hTw := Lib.hid (hTw.out.ext hq)
  replace hTb := Lib.hid (hTb.out.ext hq)
  replace hX := Lib.hid ((Keep.of_ext (X := fun _ => False) hq).blk hX.out id)
  replace hE := Lib.hid (hE.out.trans hq)
  clear hq
  have x0 : w3.cell? ⟨w.heap.size, 1, none⟩ = some (.int .u8 x2) := hX.out.cell 1
  have xl := hX.out.lt
  have b0 : w3.cell? ⟨w2.heap.size, 0, none⟩ = some (.slice ta T.length tc) := hB.out.cell 0
  have bl := hB.out.lt
  go_wp2_with fail
  refine (selection_calls (.slice ta T.length tc) T x2 _ hTw.out hy2 hlen6).mono ?_
  rw [hSd2.out]
  rintro e w4 ⟨sv, rfl, hsv, hq⟩
  obtain ⟨sa2, sc2, rfl⟩ := owns_form hsv
  clear b0 bl x0 xl
  (try replace hRw := Lib.hid (hRw.out.ext hq))
  (try replace hTw := Lib.hid (hTw.out.ext hq))
  (try replace hL := Lib.hid (hL.out.ext hq))
  (try replace hS := Lib.hid (hS.out.ext hq))
  (try replace hS2 := Lib.hid (hS2.out.ext hq))
  (try replace hA := Lib.hid (hA.out.ext hq))
  (try replace hC := Lib.hid (hC.out.ext hq))
  (try replace hN := Lib.hid (hN.out.ext hq))
  (try replace hTb := Lib.hid (hTb.out.ext hq))
  (try replace hB := Lib.hid ((Keep.of_ext (X := fun _ => False) hq).blk hB.out id))
  (try replace hX := Lib.hid ((Keep.of_ext (X := fun _ => False) hq).blk hX.out id))
  replace hE := Lib.hid (hE.out.trans hq)
  clear hq
  have hS2 := Lib.hid hsv.read
  clear hsv
  have b0 : w4.cell? ⟨w2.heap.size, 0, none⟩ = some (.slice ta T.length tc) := hB.out.cell 0
  have bl := hB.out.lt
  go_wp2_with fail
  refine (text_calls (.slice ta T.length tc) (.slice sa S.length sc) T S w4 hTw.out hS.out (fun _ => hsz.out) hTb.out).mono ?_
  rw [hXd.out]
  rintro e w5 ⟨B1, rfl, hB1, hq⟩
  clear b0 bl
  (try replace hRw := Lib.hid (hRw.out.ext hq))
  (try replace hTw := Lib.hid (hTw.out.ext hq))
  (try replace hL := Lib.hid (hL.out.ext hq))
  (try replace hS := Lib.hid (hS.out.ext hq))
  (try replace hS2 := Lib.hid (hS2.out.ext hq))
  (try replace hA := Lib.hid (hA.out.ext hq))
  (try replace hC := Lib.hid (hC.out.ext hq))
  (try replace hN := Lib.hid (hN.out.ext hq))
  (try replace hTb := Lib.hid (hTb.out.ext hq))
  (try replace hB := Lib.hid ((Keep.of_ext (X := fun _ => False) hq).blk hB.out id))
  (try replace hX := Lib.hid ((Keep.of_ext (X := fun _ => False) hq).blk hX.out id))
  replace hE := Lib.hid (hE.out.trans hq)
  clear hq
  have hBd := Lib.hid hB1
  have hB1s := hB1.size
  have hXl : X.length ≤ 41000000 := by
    rw [← hXd.out]
    unfold textT
    split
    · split
      · simp
      · have := head_len (s := subT T S) (fun y hy => sized_sub hsz.out (up_idx hSs.out) y hy) (by rw [sub_len]; omega) (subT T S).length
        rw [List.take_length] at this
        omega
    · simp
  clear hB1
  go_wp2_with fail
  go_loopw [10, 11] (fun vc vi wr => ∃ (i c : Nat), i ≤ X.length ∧ vi = .int .i64 i ∧ vc = .int .i64 c ∧ Hid (c = nls (X.take i)) ∧ c ≤ i ∧ Hid (Ext w5 wr)) (fun _ vi _ => X.length - (intOf vi).toNat)
  case atStart => exact ⟨0, 0, Nat.zero_le _, rfl, rfl, rfl, Nat.le_refl _, Lib.hid (Ext.refl _)⟩
  case round =>
    obtain ⟨i, c, hi, rfl, rfl, hc, hci, hx⟩ := hrel
    by_cases h1 : i < X.length
    · have hbi : i < B1.size := by rw [hB1s]; exact h1
      have hat := bs_at hBd.out hbi h1
      have hstep := Lib.hid (nls_take h1)
      by_cases h10 : X[i] = 10
      · have d0 : (((B1[i]'hbi).toNat : Int) == 10) = true := by rw [hat, h10]; rfl
        rw [if_pos h10] at hstep
        have N : Hid (c + 1 = nls (X.take (i + 1))) := Lib.hid (by rw [hstep.out, hc.out])
        clear h10 hat hstep hc
        go_wp2
        go_roundw
        case rel => exact ⟨i + 1, c + 1, h1, by go_num, by go_num, N, by omega, hx⟩
        case measure => simp [intOf]; omega
      · have d0 : (((B1[i]'hbi).toNat : Int) == 10) = false := by
          rw [hat, beq_eq_false_iff_ne]
          intro e
          refine h10 (UInt8.toNat_inj.1 ?_)
          show X[i].toNat = 10
          omega
        rw [if_neg h10] at hstep
        have N : Hid (c = nls (X.take (i + 1))) := Lib.hid (by rw [hstep.out, hc.out]; rfl)
        clear h10 hat hstep hc
        go_wp2
        go_roundw
        case rel => exact ⟨i + 1, c, h1, by go_num, rfl, N, by omega, hx⟩
        case measure => simp [intOf]; omega
    · have hcf : Hid (c = nls X) := Lib.hid (by have := hc.out; rwa [List.take_of_length_le (by omega)] at this)
      have hq := hx.out
      (try replace hRw := Lib.hid (hRw.out.ext hq))
      (try replace hTw := Lib.hid (hTw.out.ext hq))
      (try replace hL := Lib.hid (hL.out.ext hq))
      (try replace hS := Lib.hid (hS.out.ext hq))
      (try replace hS2 := Lib.hid (hS2.out.ext hq))
      (try replace hA := Lib.hid (hA.out.ext hq))
      (try replace hC := Lib.hid (hC.out.ext hq))
      (try replace hN := Lib.hid (hN.out.ext hq))
      (try replace hTb := Lib.hid (hTb.out.ext hq))
      (try replace hB := Lib.hid ((Keep.of_ext (X := fun _ => False) hq).blk hB.out id))
      (try replace hX := Lib.hid ((Keep.of_ext (X := fun _ => False) hq).blk hX.out id))
      replace hE := Lib.hid (hE.out.trans hq)
      clear hq
      clear hc hx
      by_cases h0 : S = []
      · have hl0 : ((S.length : Int) == 0) = true := by rw [h0]; rfl
        obtain rfl : B1 = ⟨#[]⟩ := by have := hBd.out; rw [hnone.out h0] at this; exact this
        clear h0 hBd hnone hlines hsame hcf
        go_wp2
        go_ret
        exact ⟨rfl, hE.out⟩
      · have hl0 : ((S.length : Int) == 0) = false := by
          have := List.length_pos_iff.2 h0
          rw [beq_eq_false_iff_ne]; omega
        obtain rfl : c = S.length + 1 := by rw [hcf.out, hlines.out h0]
        have hsm := Lib.hid (hsame.out h0)
        clear h0 hnone hlines hsame hcf hci
        have b0 : wr.cell? ⟨w2.heap.size, 0, none⟩ = some (.slice ta T.length tc) := hB.out.cell 0
        have bl := hB.out.lt
        go_wp2_with fail
        refine (text_calls (.slice ta T.length tc) (.slice sa2 S2.length sc2) T S2 wr hTw.out hS2.out (fun _ => hsz.out) hTb.out).mono ?_
        rw [hXd2.out]
        rintro e w6 ⟨B2, rfl, hB2, hq⟩
        clear b0 bl
        (try replace hRw := Lib.hid (hRw.out.ext hq))
        (try replace hTw := Lib.hid (hTw.out.ext hq))
        (try replace hL := Lib.hid (hL.out.ext hq))
        (try replace hS := Lib.hid (hS.out.ext hq))
        (try replace hS2 := Lib.hid (hS2.out.ext hq))
        (try replace hA := Lib.hid (hA.out.ext hq))
        (try replace hC := Lib.hid (hC.out.ext hq))
        (try replace hN := Lib.hid (hN.out.ext hq))
        (try replace hTb := Lib.hid (hTb.out.ext hq))
        (try replace hB := Lib.hid ((Keep.of_ext (X := fun _ => False) hq).blk hB.out id))
        (try replace hX := Lib.hid ((Keep.of_ext (X := fun _ => False) hq).blk hX.out id))
        replace hE := Lib.hid (hE.out.trans hq)
        clear hq
        have hcl : Hid (∀ W, Ext w6 W → Calls Tryz.prog 21 #[.slice sa S.length sc, .slice sa2 S2.length sc2] W fun e w' => e = .returned (.bool (decide (S = S2))) ∧ Ext W w') := Lib.hid fun W hW => rNumbers34_calls _ _ S S2 W (hS.out.ext hW) (hS2.out.ext hW)
        by_cases hss : S = S2
        · obtain rfl : B1 = B2 := by rw [hBd.out, hB2, (hsm.out.2 hss)]
          rw [decide_eq_true hss] at hcl
          clear hss hsm hBd hB2
          go_wp2_with fail
          refine (hcl.out w6 (Ext.refl _)).mono ?_
          rintro e w7 ⟨rfl, hq⟩
          go_wp2
          go_ret
          exact ⟨rfl, hE.out.trans hq⟩
        · have hne : B1 ≠ B2 := fun e => hss (hsm.out.1 (by
            have a := hBd.out
            have b := hB2
            unfold BS at a b
            rw [← e, a] at b
            have := congrArg (fun z : ByteArray => z.data.toList) b
            simpa using this))
          have d7 : (B1.toList == B2.toList) = false := by
            rw [beq_eq_false_iff_ne]
            intro e
            rw [ByteArray.toList_eq, ByteArray.toList_eq] at e
            exact hne (ByteArray.ext (Array.toList_inj.1 e))
          rw [decide_eq_false hss] at hcl
          clear hss hsm hBd hB2 hne
          go_wp2_with fail
          refine (hcl.out w6 (Ext.refl _)).mono ?_
          rintro e w7 ⟨rfl, hq⟩
          go_wp2
          go_ret
          exact ⟨rfl, hE.out.trans hq⟩
end Go.Proofs.YtcpohkigbaechaaGreatDoor
