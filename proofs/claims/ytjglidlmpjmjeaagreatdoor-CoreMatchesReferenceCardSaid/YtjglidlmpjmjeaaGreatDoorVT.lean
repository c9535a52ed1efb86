/- Merged parts: UY, UZ, VA. -/
import Derived.Test.YtjglidlmpjmjeaaGreatDoorUC
import Derived.Deep.Cut
import Derived.Laws.BytesArg
import Derived.Test.YtjglidlmpjmjeaaGreatDoorVR
/- Walks of the reference of cores: digits. -/
namespace Go.Proofs.YtjglidlmpjmjeaaGreatDoor
open Go.RowKit Go.Shelf

theorem run_conv1 (w : World) (c : Int) : (convert 96 9 (.slice (some ⟨w.heap.size, 0, none⟩) 1 1)).run Tryz.prog (w.alloc (.cells #[.int .u8 c] 5)) = .ok (.string (strOfNums [c])) (w.alloc (.cells #[.int .u8 c] 5)) :=
 run_convert_bytes_arg _ 96 5 Tryz.underlying96 Tryz.underlying5 w.heap.size 0 1 1 [c] rfl (fun i hi => by obtain rfl : i = 0 := (by omega); exact (Blk.new _ _ _).cell 0) 9 Tryz.underlying9
attribute [local go_sem] run_conv1
set_option maxHeartbeats 1600000 in
set_option maxRecDepth 100000 in
theorem digit_calls (n : Nat) (w : World) (hn : n < 10) :
  Calls Tryz.prog 46 #[.int .i64 (n : Int)] w fun e w' => ∃ S, e = .returned (.string S) ∧ BS S (Lib.decDigits n) ∧ Ext w w' := by
 have hb : ∀ m : Nat, m < 10 → Lib.decDigits m = [UInt8.ofNat (48 + m)] := fun m hm => by
  rw [Lib.decDigits, dif_pos hm]
 rcases (show n = 0 ∨ n = 1 ∨ n = 2 ∨ n = 3 ∨ n = 4 ∨ n = 5 ∨ n = 6 ∨ n = 7 ∨ n = 8 ∨ n = 9 by omega) with rfl | rfl | rfl | rfl | rfl | rfl | rfl | rfl | rfl | rfl
 all_goals
  rw [hb _ (by decide)]
  clear hb hn
  go_enter Tryz.func46, Tryz.ntmps46
  go_wp2
  go_ret
  exact ⟨_, rfl, rfl, (by with_reducible repeat' (first | exact Ext.refl _ | assumption | refine Ext.drewN ?_ _ | refine Ext.drew ?_ | refine Ext.alloc ?_ _ | refine Ext.trans ?_ (by with_reducible assumption)))⟩
set_option maxHeartbeats 1600000 in
set_option maxRecDepth 100000 in
theorem digitsN_calls (n : Nat) : ∀ (w : World), n ≤ 9223372036854775807 → Calls Tryz.prog 46 #[.int .i64 (n : Int)] w fun e w' => ∃ S, e = .returned (.string S) ∧ BS S (Lib.decDigits n) ∧ Ext w w' := by
 induction n using Nat.strongRecOn with
 | ind n ih =>
  intro w hn
  by_cases h10 : n < 10
  ·exact digit_calls n w h10
  ·have i1 := Lib.hid (ih (n / 10) (by omega))
   have i2 := Lib.hid (ih (n % 10) (by omega))
   have hd : Hid (Lib.decDigits n = Lib.decDigits (n / 10) ++ Lib.decDigits (n % 10)) := Lib.hid (by
    rw [Lib.decDigits, dif_neg h10]
    congr 1
    rw [Lib.decDigits, dif_pos (by omega)])
   have d1 : decide ((n : Int) < 0) = false := decide_eq_false (by omega)
   have d2 : decide ((n : Int) < 10) = false := decide_eq_false (by omega)
   have hl1 := decDigits_len 18 (n / 10) (by omega)
   have hl2 := decDigits_len 18 (n % 10) (by omega)
   clear ih
   go_enter Tryz.func46, Tryz.ntmps46
   go_wp2_with fail
   first
   | rw [show ((n : Int) / 10) = ((n / 10 : Nat) : Int) by omega]
   | rw [show (n : Int).tdiv 10 = ((n / 10 : Nat) : Int) by rw [Int.tdiv_eq_ediv_of_nonneg (by omega)]; omega]
   refine (i1.out w (by omega)).mono ?_
   rintro e w1 ⟨S1, rfl, hS1, hx1⟩
   have hz1 : S1.size ≤ 20 := by rw [hS1.size]; omega
   have hS1' := Lib.hid hS1
   have hx1' := Lib.hid hx1
   clear hS1 hx1
   go_wp2_with fail
   first
   | rw [show ((n : Int) % 10) = ((n % 10 : Nat) : Int) by omega]
   | rw [show (n : Int).tmod 10 = ((n % 10 : Nat) : Int) by rw [Int.tmod_eq_emod_of_nonneg (by omega)]; omega]
   refine (i2.out w1 (by omega)).mono ?_
   rintro e w2 ⟨S2, rfl, hS2, hx2⟩
   have hz2 : S2.size ≤ 20 := by rw [hS2.size]; omega
   have hS := Lib.hid (hS1'.out.app hS2)
   have hx := Lib.hid (hx1'.out.trans hx2)
   clear hS2 hx2
   go_wp2
   go_ret
   rw [hd.out]
   exact ⟨_, rfl, hS.out, hx.out⟩
set_option maxHeartbeats 1600000 in
set_option maxRecDepth 100000 in
theorem digits_calls (n : Int) (w : World) (h0 : -1000000000000000000 ≤ n) (h1 : n ≤ 9223372036854775807) :
  Calls Tryz.prog 46 #[.int .i64 n] w fun e w' => ∃ S, e = .returned (.string S) ∧ BS S (Lib.itoa n) ∧ S.size ≤ 20 ∧ Ext w w' := by
 have hl : Hid ((Lib.itoa n).length ≤ 20) := Lib.hid (itoa_len (by omega) (by omega))
 by_cases hn : n < 0
 ·obtain ⟨k, rfl⟩ : ∃ k : Nat, n = -(k : Int) := ⟨n.natAbs, by omega⟩
  have hi : Hid (Lib.itoa (-(k : Int)) = [45] ++ Lib.decDigits k) := Lib.hid (by
   unfold Lib.itoa
   rw [if_pos hn]
   simp)
  have d1 : decide (-(k : Int) < 0) = true := decide_eq_true hn
  go_enter Tryz.func46, Tryz.ntmps46
  go_wp2_with fail
  try rw [Int.neg_neg]
  refine (digitsN_calls k w (by omega)).mono ?_
  rintro e w1 ⟨S1, rfl, hS1, hx1⟩
  have hz1 : S1.size ≤ 20 := by rw [hS1.size]; have := decDigits_len 18 k (by omega); omega
  have hS := Lib.hid ((BS.lit [45]).app hS1)
  have hx := Lib.hid hx1
  clear hS1 hx1
  go_wp2
  go_ret
  refine ⟨_, rfl, ?_, ?_, hx.out⟩
  ·rw [hi.out]; exact hS.out
  ·rw [hS.out.size, ← hi.out]; exact hl.out
 ·obtain ⟨k, rfl⟩ := Int.eq_ofNat_of_zero_le (show 0 ≤ n by omega)
  have hi : Lib.itoa (k : Int) = Lib.decDigits k := by
   unfold Lib.itoa
   rw [if_neg hn]
   rfl
  rw [hi] at hl ⊢
  refine (digitsN_calls k w (by omega)).mono ?_
  rintro e w1 ⟨S1, rfl, hS1, hx1⟩
  exact ⟨_, rfl, hS1, by rw [hS1.size]; exact hl.out, hx1⟩
end Go.Proofs.YtjglidlmpjmjeaaGreatDoor

/- Walks of the reference of cores: the text of an option. -/
namespace Go.Proofs.YtjglidlmpjmjeaaGreatDoor
open Go.RowKit Go.Shelf

def M18 (n : Int) : Prop := -1000000000000000000 ≤ n ∧ n ≤ 9223372036854775807
theorem M18.i64 {n : Int} (h : M18 n) : I64 n := ⟨by have := h.1; omega, by have := h.2; omega⟩
set_option maxHeartbeats 3200000 in
set_option maxRecDepth 100000 in
theorem rOption_calls (sv : Value) (o : OptD) (w : World) (hr : M18 o.room) (hs : Spans w sv o.spans) (hsp : ∀ x ∈ o.spans, M18 x.1 ∧ M18 x.2) (hsl : o.spans.length ≤ 100000) :
  Calls Tryz.prog 47 #[.agg #[.int .i64 o.harm, .int .i64 o.room, sv]] w fun e w' => ∃ S, e = .returned (.string S) ∧ BS S (optX o) ∧ Ext w w' := by
 obtain ⟨oh, room, spans⟩ := o
 dsimp only at hr hs hsp hsl ⊢
 have hrm := Lib.hid hr
 obtain ⟨hr0, hr1⟩ := hr
 obtain ⟨sa, sc, rfl, hn, hc, hat⟩ := hs.open
 have hat' := Lib.hid hat
 have hsp' := Lib.hid hsp
 clear hs hat hsp
 by_cases hr : 0 ≤ room
 ·have d1 : decide (0 ≤ room) = true := decide_eq_true hr
  go_enter Tryz.func47, Tryz.ntmps47
  go_wp2_with fail
  refine (digits_calls room _ hr0 hr1).mono ?_
  rintro e w1 ⟨S0, rfl, hS0, hb0, hx1⟩
  have hB : Hid (Blk w1 w.heap.size 55 #[.int .i64 oh, .int .i64 room, .slice sa spans.length sc]) := Lib.hid ((Keep.of_ext (X := fun _ => False) hx1).blk (blk_new' rfl rfl) id)
  have hE : Hid (Ext w w1) := Lib.hid (((Ext.refl w).alloc _).trans hx1)
  obtain ⟨S, hSd⟩ : ∃ S, Hid ((⟨#[114, 111, 111, 109, 32]⟩ : ByteArray) ++ S0 = S) := ⟨_, rfl⟩
  have hS : Hid (BS S (roomT ⟨oh, room, spans⟩)) := Lib.hid (by rw [← hSd.out]; unfold roomT; rw [if_pos hr]; exact (BS.lit txtRoom).app hS0)
  clear hx1 hS0
  go_upto_region 4 with (fail)
  rw [hSd.out]
  clear hSd
  have hSb : S.size ≤ 30 := by rw [hS.out.size]; have := roomT_len (o := ⟨oh, room, spans⟩) hrm.out.i64; omega
  go_wp2_with fail
  go_loopw [3, 4] (fun v3 vi wr => ∃ (i : Nat) (V : ByteArray), i ≤ spans.length ∧ v3 = .string V ∧ vi = .int .i64 i ∧ Hid (BS V (roomT ⟨oh, room, spans⟩ ++ (spans.take i).flatMap spanT)) ∧ V.size ≤ 30 + 60 * i ∧ Hid (Ext w1 wr)) (fun _ vi _ => spans.length - (intOf vi).toNat)
  case atStart => exact ⟨0, S, Nat.zero_le _, rfl, rfl, Lib.hid (by simpa using hS.out), by omega, Lib.hid (Ext.refl _)⟩
  case round =>
   clear hS hSb
   obtain ⟨i, V, hi, rfl, rfl, hV, hVb, hx⟩ := hrel
   have hBr := Lib.hid ((Keep.of_ext (X := fun _ => False) hx.out).blk hB.out id)
   have c2 : wr.cell? ⟨w.heap.size, 2, none⟩ = some (.slice sa spans.length sc) := hBr.out.cell 2
   have l2 := hBr.out.lt
   have hxw := Lib.hid (hE.out.trans hx.out)
   by_cases h1 : i < spans.length
   ·obtain ⟨b1, o1, x, y, rfl, hb1, _, ex, g1, g2⟩ := hat'.out i h1 wr hxw.out
    obtain ⟨hx1, hy1⟩ := hsp'.out (x, y) (List.mem_of_getElem? ex.out)
    obtain ⟨hx2, hx3⟩ : -1000000000000000000 ≤ x ∧ x ≤ 9223372036854775807 := hx1
    obtain ⟨hy2, hy3⟩ : -1000000000000000000 ≤ y ∧ y ≤ 9223372036854775807 := hy1
    have hVb2 : V.size ≤ 6100000 := by omega
    have hnx : Hid (∀ V', BS V' (((((roomT ⟨oh, room, spans⟩ ++ (spans.take i).flatMap spanT) ++ txtFrom) ++ Lib.itoa x) ++ txtTo) ++ Lib.itoa y) → BS V' (roomT ⟨oh, room, spans⟩ ++ (spans.take (i + 1)).flatMap spanT) ∧ V'.size ≤ 30 + 60 * (i + 1)) := Lib.hid fun V' h => by
     have e : (((((roomT ⟨oh, room, spans⟩ ++ (spans.take i).flatMap spanT) ++ txtFrom) ++ Lib.itoa x) ++ txtTo) ++ Lib.itoa y) = roomT ⟨oh, room, spans⟩ ++ (spans.take (i + 1)).flatMap spanT := by
      rw [take_span ex.out]
      simp only [List.append_assoc]
     refine ⟨e ▸ h, ?_⟩
     rw [h.size, e, take_span ex.out, List.length_append, ← hV.out.size]
     have := spanT_len (x := (x, y)) ⟨⟨by show _ ≤ x; omega, by show x ≤ _; omega⟩, ⟨by show _ ≤ y; omega, by show y ≤ _; omega⟩⟩
     simp only [spanT] at this
     omega
    clear hVb ex
    go_upto_region 7 with (fail)
    have q0 := After.cell c2
    have q1 := After.cell g1
    have q2 := After.cell g2
    clear c2 g1 g2
    (refine wp_region_held [] [0, 1, 2, 3, 4, 5, 6, 7, 8, 9, 10, 11, 12, 13, 14, 15, 16, 17, 18, 19] [] (ItCon 8 17 x y) (by kernel_rfl) (by kernel_rfl) ?_; simp only [pickL]; with_reducible refine wpQuiet_nil ?_)
    (refine held_quiet [0, 1, 2, 3, 4, 5, 6, 7] [8, 9, 10, 11, 12, 13, 14, 15, 16, 17, 18, 19] (by kernel_rfl) (by kernel_rfl) ?_; simp only [pickL, List.drop]; (repeat (go_big_quiet_step (fail))); with_reducible refine wpQuiet_nil ?_)
    (refine held_call 8 [9, 10, 11, 12, 13, 14, 15, 16, 17, 18, 19] rfl (by kernel_rfl) 46 (#[.int .i64 x]) (fun W => by kernel_rfl) rfl ?_ ?_ ?_)
    ·exact fun _ _ _ _ h => h
    ·refine fun W hW _ => (digits_calls x W hx2 hx3).mono ?_
     rintro e W' ⟨S9, rfl, h1, h2, h3⟩
     exact ⟨_, rfl, h3, fun _ => ⟨S9, rfl, h1, h2⟩, fun h => by cases h⟩
    rintro v ⟨Y, hY, hCv⟩
    obtain ⟨Sx, rfl, hSx, hbx1⟩ := hCv.1 rfl
    clear hCv hY Y
    simp only [Act.put, List.setIfInBounds_toArray, List.set_cons_succ, List.set_cons_zero]
    (refine held_quiet [9, 10, 11, 12, 13, 14, 15, 16] [17, 18, 19] (by kernel_rfl) (by kernel_rfl) ?_; simp only [pickL, List.drop]; (repeat (go_big_quiet_step (fail))); with_reducible refine wpQuiet_nil ?_)
    (refine held_call 17 [18, 19] rfl (by kernel_rfl) 46 (#[.int .i64 y]) (fun W => by kernel_rfl) rfl ?_ ?_ ?_)
    ·exact fun _ _ _ _ h => h
    ·refine fun W hW _ => (digits_calls y W hy2 hy3).mono ?_
     rintro e W' ⟨S9, rfl, h1, h2, h3⟩
     exact ⟨_, rfl, h3, (fun h => by cases h), fun _ => ⟨S9, rfl, h1, h2⟩⟩
    rintro v ⟨Y, hY, hCv⟩
    obtain ⟨Sy, rfl, hSy, hby1⟩ := hCv.2 rfl
    clear hCv hY Y
    simp only [Act.put, List.setIfInBounds_toArray, List.set_cons_succ, List.set_cons_zero]
    (refine held_quiet [18, 19] [] (by kernel_rfl) (by kernel_rfl) ?_; simp only [pickL, List.drop]; (repeat (go_big_quiet_step (fail))); with_reducible refine wpQuiet_nil ?_)
    intro w9 hx9 hfc htk Q0 hQ0
    simp only [pickL]
    have hE9 := Lib.hid (hx.out.trans hx9)
    have hn := hnx.out _ ((((hV.out.app (BS.lit txtFrom)).app hSx.out).app (BS.lit txtTo)).app hSy.out)
    have hn1 := Lib.hid hn.1
    have hn2 := hn.2
    clear hfc htk q0 q1 q2 hx9 hx hnx hn hSx hSy hV hxw hBr
    refine hQ0 _ _ ?_
    clear hQ0 Q0
    go_wp2
    go_roundw
    case rel => first | exact ⟨i + 1, _, h1, rfl, by go_num, hn1, hn2, hE9⟩ | ((repeat apply Exists.intro); exact ⟨⟨i + 1, _, h1, rfl, by go_num, hn1, hn2, hE9⟩, rfl⟩)
    case measure => simp [intOf]; omega
   ·obtain rfl : i = spans.length := by omega
    have hVb2 : V.size ≤ 6100000 := by omega
    have hV2 : Hid (BS V (roomT ⟨oh, room, spans⟩ ++ spans.flatMap spanT)) := Lib.hid (by have := hV.out; rwa [List.take_of_length_le (Nat.le_refl _)] at this)
    clear hV
    by_cases hz : spans.length = 0
    ·have d2 : ((spans.length : Int) == 0) = true := by simp [hz]
     have R : Hid (optX ⟨oh, room, spans⟩ = (roomT ⟨oh, room, spans⟩ ++ spans.flatMap spanT) ++ txtNever) := Lib.hid (by
      rw [show optX ⟨oh, room, spans⟩ = roomT ⟨oh, room, spans⟩ ++ txtNever from if_pos hz, List.eq_nil_of_length_eq_zero hz]
      simp)
     clear hz
     go_wp2
     go_ret
     rw [R.out]
     exact ⟨_, rfl, hV2.out.app (BS.lit _), hxw.out⟩
    ·have d2 : ((spans.length : Int) == 0) = false := by rw [beq_eq_false_iff_ne]; omega
     have R : Hid (optX ⟨oh, room, spans⟩ = roomT ⟨oh, room, spans⟩ ++ spans.flatMap spanT) := if_neg hz
     clear hz
     go_wp2
     go_ret
     rw [R.out]
     exact ⟨_, rfl, hV2.out, hxw.out⟩
 ·have d1 : decide (0 ≤ room) = false := decide_eq_false hr
  go_enter Tryz.func47, Tryz.ntmps47
  go_upto_region 4 with (fail)
  obtain ⟨w1, hw1⟩ : ∃ w1, w.alloc (.cells #[.int .i64 oh, .int .i64 room, .slice sa spans.length sc] 55) = w1 := ⟨_, rfl⟩
  have hB : Hid (Blk w1 w.heap.size 55 #[.int .i64 oh, .int .i64 room, .slice sa spans.length sc]) := Lib.hid (by rw [← hw1]; exact blk_new' rfl rfl)
  have hE : Hid (Ext w w1) := Lib.hid (by rw [← hw1]; exact (Ext.refl w).alloc _)
  obtain ⟨S, hSd⟩ : ∃ S, Hid ((⟨#[110, 111, 32, 114, 111, 111, 109]⟩ : ByteArray) = S) := ⟨_, rfl⟩
  have hS : Hid (BS S (roomT ⟨oh, room, spans⟩)) := Lib.hid (by rw [← hSd.out]; unfold roomT; rw [if_neg hr]; exact BS.lit txtNoRoom)
  rw [hw1, hSd.out]
  clear hw1 hSd
  have hSb : S.size ≤ 30 := by rw [hS.out.size]; have := roomT_len (o := ⟨oh, room, spans⟩) hrm.out.i64; omega
  go_wp2_with fail
  go_loopw [3, 4] (fun v3 vi wr => ∃ (i : Nat) (V : ByteArray), i ≤ spans.length ∧ v3 = .string V ∧ vi = .int .i64 i ∧ Hid (BS V (roomT ⟨oh, room, spans⟩ ++ (spans.take i).flatMap spanT)) ∧ V.size ≤ 30 + 60 * i ∧ Hid (Ext w1 wr)) (fun _ vi _ => spans.length - (intOf vi).toNat)
  case atStart => exact ⟨0, S, Nat.zero_le _, rfl, rfl, Lib.hid (by simpa using hS.out), by omega, Lib.hid (Ext.refl _)⟩
  case round =>
   clear hS hSb
   obtain ⟨i, V, hi, rfl, rfl, hV, hVb, hx⟩ := hrel
   have hBr := Lib.hid ((Keep.of_ext (X := fun _ => False) hx.out).blk hB.out id)
   have c2 : wr.cell? ⟨w.heap.size, 2, none⟩ = some (.slice sa spans.length sc) := hBr.out.cell 2
   have l2 := hBr.out.lt
   have hxw := Lib.hid (hE.out.trans hx.out)
   by_cases h1 : i < spans.length
   ·obtain ⟨b1, o1, x, y, rfl, hb1, _, ex, g1, g2⟩ := hat'.out i h1 wr hxw.out
    obtain ⟨hx1, hy1⟩ := hsp'.out (x, y) (List.mem_of_getElem? ex.out)
    obtain ⟨hx2, hx3⟩ : -1000000000000000000 ≤ x ∧ x ≤ 9223372036854775807 := hx1
    obtain ⟨hy2, hy3⟩ : -1000000000000000000 ≤ y ∧ y ≤ 9223372036854775807 := hy1
    have hVb2 : V.size ≤ 6100000 := by omega
    have hnx : Hid (∀ V', BS V' (((((roomT ⟨oh, room, spans⟩ ++ (spans.take i).flatMap spanT) ++ txtFrom) ++ Lib.itoa x) ++ txtTo) ++ Lib.itoa y) → BS V' (roomT ⟨oh, room, spans⟩ ++ (spans.take (i + 1)).flatMap spanT) ∧ V'.size ≤ 30 + 60 * (i + 1)) := Lib.hid fun V' h => by
     have e : (((((roomT ⟨oh, room, spans⟩ ++ (spans.take i).flatMap spanT) ++ txtFrom) ++ Lib.itoa x) ++ txtTo) ++ Lib.itoa y) = roomT ⟨oh, room, spans⟩ ++ (spans.take (i + 1)).flatMap spanT := by
      rw [take_span ex.out]
      simp only [List.append_assoc]
     refine ⟨e ▸ h, ?_⟩
     rw [h.size, e, take_span ex.out, List.length_append, ← hV.out.size]
     have := spanT_len (x := (x, y)) ⟨⟨by show _ ≤ x; omega, by show x ≤ _; omega⟩, ⟨by show _ ≤ y; omega, by show y ≤ _; omega⟩⟩
     simp only [spanT] at this
     omega
    clear hVb ex
    go_upto_region 7 with (fail)
    have q0 := After.cell c2
    have q1 := After.cell g1
    have q2 := After.cell g2
    clear c2 g1 g2
    (refine wp_region_held [] [0, 1, 2, 3, 4, 5, 6, 7, 8, 9, 10, 11, 12, 13, 14, 15, 16, 17, 18, 19] [] (ItCon 8 17 x y) (by kernel_rfl) (by kernel_rfl) ?_; simp only [pickL]; with_reducible refine wpQuiet_nil ?_)
    (refine held_quiet [0, 1, 2, 3, 4, 5, 6, 7] [8, 9, 10, 11, 12, 13, 14, 15, 16, 17, 18, 19] (by kernel_rfl) (by kernel_rfl) ?_; simp only [pickL, List.drop]; (repeat (go_big_quiet_step (fail))); with_reducible refine wpQuiet_nil ?_)
    (refine held_call 8 [9, 10, 11, 12, 13, 14, 15, 16, 17, 18, 19] rfl (by kernel_rfl) 46 (#[.int .i64 x]) (fun W => by kernel_rfl) rfl ?_ ?_ ?_)
    ·exact fun _ _ _ _ h => h
    ·refine fun W hW _ => (digits_calls x W hx2 hx3).mono ?_
     rintro e W' ⟨S9, rfl, h1, h2, h3⟩
     exact ⟨_, rfl, h3, fun _ => ⟨S9, rfl, h1, h2⟩, fun h => by cases h⟩
    rintro v ⟨Y, hY, hCv⟩
    obtain ⟨Sx, rfl, hSx, hbx1⟩ := hCv.1 rfl
    clear hCv hY Y
    simp only [Act.put, List.setIfInBounds_toArray, List.set_cons_succ, List.set_cons_zero]
    (refine held_quiet [9, 10, 11, 12, 13, 14, 15, 16] [17, 18, 19] (by kernel_rfl) (by kernel_rfl) ?_; simp only [pickL, List.drop]; (repeat (go_big_quiet_step (fail))); with_reducible refine wpQuiet_nil ?_)
    (refine held_call 17 [18, 19] rfl (by kernel_rfl) 46 (#[.int .i64 y]) (fun W => by kernel_rfl) rfl ?_ ?_ ?_)
    ·exact fun _ _ _ _ h => h
    ·refine fun W hW _ => (digits_calls y W hy2 hy3).mono ?_
     rintro e W' ⟨S9, rfl, h1, h2, h3⟩
     exact ⟨_, rfl, h3, (fun h => by cases h), fun _ => ⟨S9, rfl, h1, h2⟩⟩
    rintro v ⟨Y, hY, hCv⟩
    obtain ⟨Sy, rfl, hSy, hby1⟩ := hCv.2 rfl
    clear hCv hY Y
    simp only [Act.put, List.setIfInBounds_toArray, List.set_cons_succ, List.set_cons_zero]
    (refine held_quiet [18, 19] [] (by kernel_rfl) (by kernel_rfl) ?_; simp only [pickL, List.drop]; (repeat (go_big_quiet_step (fail))); with_reducible refine wpQuiet_nil ?_)
    intro w9 hx9 hfc htk Q0 hQ0
    simp only [pickL]
    have hE9 := Lib.hid (hx.out.trans hx9)
    have hn := hnx.out _ ((((hV.out.app (BS.lit txtFrom)).app hSx.out).app (BS.lit txtTo)).app hSy.out)
    have hn1 := Lib.hid hn.1
    have hn2 := hn.2
    clear hfc htk q0 q1 q2 hx9 hx hnx hn hSx hSy hV hxw hBr
    refine hQ0 _ _ ?_
    clear hQ0 Q0
    go_wp2
    go_roundw
    case rel => first | exact ⟨i + 1, _, h1, rfl, by go_num, hn1, hn2, hE9⟩ | ((repeat apply Exists.intro); exact ⟨⟨i + 1, _, h1, rfl, by go_num, hn1, hn2, hE9⟩, rfl⟩)
    case measure => simp [intOf]; omega
   ·obtain rfl : i = spans.length := by omega
    have hVb2 : V.size ≤ 6100000 := by omega
    have hV2 : Hid (BS V (roomT ⟨oh, room, spans⟩ ++ spans.flatMap spanT)) := Lib.hid (by have := hV.out; rwa [List.take_of_length_le (Nat.le_refl _)] at this)
    clear hV
    by_cases hz : spans.length = 0
    ·have d2 : ((spans.length : Int) == 0) = true := by simp [hz]
     have R : Hid (optX ⟨oh, room, spans⟩ = (roomT ⟨oh, room, spans⟩ ++ spans.flatMap spanT) ++ txtNever) := Lib.hid (by
      rw [show optX ⟨oh, room, spans⟩ = roomT ⟨oh, room, spans⟩ ++ txtNever from if_pos hz, List.eq_nil_of_length_eq_zero hz]
      simp)
     clear hz
     go_wp2
     go_ret
     rw [R.out]
     exact ⟨_, rfl, hV2.out.app (BS.lit _), hxw.out⟩
    ·have d2 : ((spans.length : Int) == 0) = false := by rw [beq_eq_false_iff_ne]; omega
     have R : Hid (optX ⟨oh, room, spans⟩ = roomT ⟨oh, room, spans⟩ ++ spans.flatMap spanT) := if_neg hz
     clear hz
     go_wp2
     go_ret
     rw [R.out]
     exact ⟨_, rfl, hV2.out, hxw.out⟩
end Go.Proofs.YtjglidlmpjmjeaaGreatDoor

/- Walk of the reference of cores: Text. -/
namespace Go.Proofs.YtjglidlmpjmjeaaGreatDoor
open Go.RowKit Go.Shelf

structure Sized18 (x : WishD) : Prop where
 sized : Sized x
 meeting : M18 x.meeting
 people : ∀ p ∈ x.people, M18 p
 opts : ∀ o ∈ x.opts, M18 o.room ∧ ∀ s ∈ o.spans, M18 s.1 ∧ M18 s.2
theorem sub_at {t : List WishD} {l : List Int} {i k : Nat} {x : WishD} (h : l[i]? = some (k : Int)) (hx : t[k]? = some x) : (subT t l)[i]? = some x := by
 simp [subT, h, hx]
set_option maxHeartbeats 6400000 in
set_option maxRecDepth 100000 in
theorem rText_calls (wv lv : Value) (t : List WishD) (l : List Int) (w : World) (h : Wishes w wv t) (hl : Ints w lv l) (hsz : validT t = 0 → ∀ x ∈ t, Sized18 x) :
  Calls Tryz.prog 18 #[.agg #[wv], lv] w fun e w' => ∃ S, e = .returned (.string S) ∧ BS S (textT t l) ∧ Ext w w' := by
 have hT := Lib.hid h
 have hL := Lib.hid hl
 obtain ⟨ta, tc, rfl, htn, htc, htat⟩ := h.open
 obtain ⟨la, lc, rfl, hln, hlc, hlat⟩ := hl.open
 have htat' := Lib.hid htat
 have hlat' := Lib.hid hlat
 clear h hl htat hlat
 obtain ⟨z, hz⟩ : ∃ z, Hid (validT t = z) := ⟨_, rfl⟩
 have hv : Hid (∀ W, Ext w W → Calls Tryz.prog 29 #[.agg #[.slice ta t.length tc]] W fun e w' => e = .returned (.int .i64 z) ∧ Ext W w') := fun W hW => hz.out ▸ rValid_calls _ t W (hT.out.ext hW)
 by_cases h0 : z = 0
 ·have d0 : (z != 0) = false := by simp [h0]
  have hz0 : validT t = 0 := by rw [hz.out, h0]
  have h512 := tooLarge_len (validT_ok hz0).1
  have hall := Lib.hid (hsz hz0)
  obtain ⟨b, hb⟩ : ∃ b, Hid (selB t.length (-1) l = b) := ⟨_, rfl⟩
  have hsel : Hid (∀ W, Ext w W → Calls Tryz.prog 42 #[.agg #[.slice ta t.length tc], .slice la l.length lc] W fun e w' => e = .returned (.bool b) ∧ Ext W w') := fun W hW => hb.out ▸ rSelection_calls _ _ t l W (hT.out.ext hW) (hL.out.ext hW)
  cases b with
  | false =>
   have R : Hid (textT t l = []) := by
    show _ = _
    have hck : checkI t l = 1 := by unfold checkI; rw [if_pos hz0, hb.out]; rfl
    unfold textT
    rw [hck]
    rfl
   clear hz hz0 h0 hb h512 hsz hall
   go_enter Tryz.func18, Tryz.ntmps18
   go_wp2_with fail
   refine (hv.out _ (by with_reducible repeat' (first | exact Ext.refl _ | assumption | refine Ext.drewN ?_ _ | refine Ext.drew ?_ | refine Ext.alloc ?_ _ | refine Ext.trans ?_ (by with_reducible assumption)))).mono ?_
   rintro e w1 ⟨rfl, hx1⟩
   have hB1 : Hid (Blk w1 w.heap.size 27 #[.slice ta t.length tc]) := Lib.hid ((Keep.of_ext (X := fun _ => False) hx1).blk (blk_new' rfl rfl) id)
   have hE1 := Lib.hid (((Ext.refl w).alloc (.cells #[.slice ta t.length tc] 27)).trans hx1)
   clear hx1 hv
   have c0 : w1.cell? ⟨w.heap.size, 0, none⟩ = some (.slice ta t.length tc) := hB1.out.cell 0
   have l0 := hB1.out.lt
   go_wp2_with fail
   refine (hsel.out _ hE1.out).mono ?_
   rintro e w2 ⟨rfl, hx2⟩
   have hB2 := Lib.hid ((Keep.of_ext (X := fun _ => False) hx2).blk hB1.out id)
   have hE2 := Lib.hid (hE1.out.trans hx2)
   clear hx2 hsel hE1 hB1 c0 l0
   go_wp2
   go_ret
   rw [R.out]
   exact ⟨_, rfl, BS.lit [], hE2.out⟩
  | true =>
   have hss0 := List.Sublist.length_le (selB_iff.1 hb.out)
   have hidx := Lib.hid (up_idx (selB_iff.1 hb.out))
   have hl5 : l.length ≤ 512 := by have := up_len (selB_iff.1 hb.out); omega
   have hck : checkI t l = 0 := by unfold checkI; rw [if_pos hz0, hb.out]; rfl
   have hR0 : Hid (textT t l = if l.length = 0 then [] else txtHead ++ (subT t l).flatMap wishX) := if_pos hck
   obtain ⟨s, hs⟩ : ∃ s, Hid (subT t l = s) := ⟨_, rfl⟩
   have hss : Hid (∀ x ∈ s, Sized x) := Lib.hid (hs.out ▸ sized_sub (fun x hx => (hall.out x hx).sized) hidx.out)
   have hsl : Hid (s.length = l.length) := Lib.hid (by rw [← hs.out, sub_len])
   clear hz hz0 h0 hb h512 hsz hss0 hck
   by_cases hl0 : l.length = 0
   ·have d1 : ((l.length : Int) == 0) = true := by simp [hl0]
    have R : Hid (textT t l = []) := by show _ = _; rw [hR0.out, if_pos hl0]
    clear hR0 hl0
    go_enter Tryz.func18, Tryz.ntmps18
    go_wp2_with fail
    refine (hv.out _ (by with_reducible repeat' (first | exact Ext.refl _ | assumption | refine Ext.drewN ?_ _ | refine Ext.drew ?_ | refine Ext.alloc ?_ _ | refine Ext.trans ?_ (by with_reducible assumption)))).mono ?_
    rintro e w1 ⟨rfl, hx1⟩
    have hB1 : Hid (Blk w1 w.heap.size 27 #[.slice ta t.length tc]) := Lib.hid ((Keep.of_ext (X := fun _ => False) hx1).blk (blk_new' rfl rfl) id)
    have hE1 := Lib.hid (((Ext.refl w).alloc (.cells #[.slice ta t.length tc] 27)).trans hx1)
    clear hx1 hv
    have c0 : w1.cell? ⟨w.heap.size, 0, none⟩ = some (.slice ta t.length tc) := hB1.out.cell 0
    have l0 := hB1.out.lt
    go_wp2_with fail
    refine (hsel.out _ hE1.out).mono ?_
    rintro e w2 ⟨rfl, hx2⟩
    have hB2 := Lib.hid ((Keep.of_ext (X := fun _ => False) hx2).blk hB1.out id)
    have hE2 := Lib.hid (hE1.out.trans hx2)
    clear hx2 hsel hE1 hB1 c0 l0
    go_wp2
    go_ret
    rw [R.out]
    exact ⟨_, rfl, BS.lit [], hE2.out⟩
   ·have d1 : ((l.length : Int) == 0) = false := by rw [beq_eq_false_iff_ne]; omega
    have R : Hid (textT t l = txtHead ++ s.flatMap wishX) := by show _ = _; rw [hR0.out, if_neg hl0, hs.out]
    clear hR0 hl0
    go_enter Tryz.func18, Tryz.ntmps18
    go_wp2_with fail
    refine (hv.out _ (by with_reducible repeat' (first | exact Ext.refl _ | assumption | refine Ext.drewN ?_ _ | refine Ext.drew ?_ | refine Ext.alloc ?_ _ | refine Ext.trans ?_ (by with_reducible assumption)))).mono ?_
    rintro e w1 ⟨rfl, hx1⟩
    have hB1 : Hid (Blk w1 w.heap.size 27 #[.slice ta t.length tc]) := Lib.hid ((Keep.of_ext (X := fun _ => False) hx1).blk (blk_new' rfl rfl) id)
    have hE1 := Lib.hid (((Ext.refl w).alloc (.cells #[.slice ta t.length tc] 27)).trans hx1)
    clear hx1 hv
    have c0 : w1.cell? ⟨w.heap.size, 0, none⟩ = some (.slice ta t.length tc) := hB1.out.cell 0
    have l0 := hB1.out.lt
    go_wp2_with fail
    refine (hsel.out _ hE1.out).mono ?_
    rintro e w2 ⟨rfl, hx2⟩
    have hB2 := Lib.hid ((Keep.of_ext (X := fun _ => False) hx2).blk hB1.out id)
    have hE2 := Lib.hid (hE1.out.trans hx2)
    clear hx2 hsel hE1 hB1 c0 l0
    go_wp2_with fail
    go_loopw [6, 5, 7, 8, 9] (fun vi v5 _ _ _ wr => ∃ (i : Nat) (V : ByteArray), i ≤ l.length ∧ vi = .int .i64 i ∧ v5 = .string V ∧ Hid (BS V (txtHead ++ (s.take i).flatMap wishX)) ∧ Hid (Ext w2 wr)) (fun vi _ _ _ _ _ => l.length - (intOf vi).toNat)
    case atStart => exact ⟨0, _, Nat.zero_le _, rfl, rfl, Lib.hid (show BS ⟨txtHead.toArray⟩ (txtHead ++ []) by rw [List.append_nil]; exact BS.lit txtHead), Lib.hid (Ext.refl _)⟩
    case round =>
     obtain ⟨i, V, hi, rfl, rfl, hV, hx⟩ := hrel
     by_cases h1 : i < l.length
     ·have hxe := Lib.hid (hE2.out.trans hx.out)
      obtain ⟨b0, o0, kz, rfl, hb0, _, ek, g0⟩ := hlat'.out i h1 wr hxe.out
      obtain ⟨k, rfl, hk⟩ := idxB_nat (hidx.out kz (List.mem_of_getElem? ek.out))
      obtain ⟨b1, o1, x, pa, pc, oa, oc, rfl, hb1, _, ey, g1, g2, g3, gp, go⟩ := htat'.out k hk wr hxe.out
      have ex : Hid (s[i]? = some x) := Lib.hid (by rw [← hs.out]; exact sub_at ek.out (by simpa using ey.out))
      have h18 := Lib.hid (hall.out x (List.mem_of_getElem? ey.out))
      have hsx := hss.out x (List.mem_of_getElem? ex.out)
      have hsx' := Lib.hid hsx
      obtain ⟨hm0, hm1⟩ : -1000000000000000000 ≤ x.meeting ∧ x.meeting ≤ 9223372036854775807 := h18.out.meeting
      have hVb : V.size ≤ 40960040 := by rw [hV.out.size]; exact head_len hss.out (by rw [hsl.out]; exact hl5) i
      obtain ⟨L0, hL0⟩ : ∃ L0, Hid (txtHead ++ (s.take i).flatMap wishX = L0) := ⟨_, rfl⟩
      have hL0b : Hid (L0.length ≤ 40960040) := Lib.hid (hL0.out ▸ head_len hss.out (by rw [hsl.out]; exact hl5) i)
      have hnext : Hid (txtHead ++ (s.take (i + 1)).flatMap wishX = L0 ++ wishX x) := Lib.hid (by
       rw [← hL0.out, List.take_add_one, ex.out]; simp)
      rw [hL0.out] at hV
      have hp6 := hsx.few
      have ho6 := hsx.fewo
      obtain ⟨pa', pc', e, hpn, hpc, hpat⟩ := gp.open
      cases e
      obtain ⟨oa', oc', e, hon, hoc, hoat⟩ := go.open
      cases e
      have hpat' := Lib.hid hpat
      have hoat' := Lib.hid hoat
      have hBr : Blk wr w.heap.size 27 #[.slice (some ⟨b1, o1, none⟩) t.length tc] := (Keep.of_ext (X := fun _ => False) hx.out).blk hB2.out id
      have z0 := After.cell (show wr.cell? ⟨w.heap.size, 0, none⟩ = some (.slice (some ⟨b1, o1, none⟩) t.length tc) from hBr.cell 0)
      have z1 := After.cell g0
      have z2 := After.cell g1
      have z3 := After.cell g2
      have z4 := After.cell g3
      clear hpat hoat gp go ex ek ey hsx hL0 hBr g0 g1 g2 g3
      go_upto_region 7 with (fail)
      (refine wp_region_held [] [0, 1, 2, 3, 4, 5, 6, 7, 8] [9] (fun _ _ _ => True) (by kernel_rfl) (by kernel_rfl) ?_; simp only [pickL]; with_reducible refine wpQuiet_nil ?_)
      (refine held_quiet [0, 1, 2, 3, 4, 5, 6, 7] [8] (by kernel_rfl) (by kernel_rfl) ?_; simp only [pickL, List.drop]; (repeat (go_big_quiet_step (fail))); with_reducible refine wpQuiet_nil ?_)
      (refine held_made 8 [] rfl (by kernel_rfl) (fun g => .pointer (some ⟨g, 0, none⟩)) (.cells #[.int .i64 0, .slice none 0 0, .slice none 0 0] 52) (fun W => by kernel_rfl) (fun g g2 e => by cases e; rfl) (fun g => rfl) ?_)
      intro gw
      simp only [Act.put, List.setIfInBounds_toArray, List.set_cons_succ, List.set_cons_zero]
      intro V7 hx7 hf ht Q0 hQ0
      have h7 := (hf 8).2 rfl
      have b7 : Blk V7 gw 52 #[.int .i64 0, .slice none 0 0, .slice none 0 0] := h7.1
      have hgw : wr.heap.size ≤ gw := h7.2
      have c7 : V7.cell? ⟨gw, 0, none⟩ = some (.int .i64 0) := b7.cell 0
      have c8 : V7.cell? ⟨gw, 1, none⟩ = some (.slice none 0 0) := b7.cell 1
      have c9 : V7.cell? ⟨gw, 2, none⟩ = some (.slice none 0 0) := b7.cell 2
      have f7 := b7.frozen 0
      have f8 := b7.frozen 1
      have f9 := b7.frozen 2
      have b7' := Lib.hid b7
      have hx7' := Lib.hid hx7
      clear hf ht h7 b7 z0 z1 z2 z3 z4 hx7
      simp only [pickL, List.drop]
      go_upto_region 8 with (fail)
      refine wp_abs (S := fun V => Hid (Ext wr V) ∧ Hid (Blk V gw 52 #[.int .i64 x.meeting, .slice pa x.people.length pc, .slice oa x.opts.length oc])) ?_ ?_
      ·exact ⟨Lib.hid (((hx7'.out.setCell (p := ⟨gw, 0, none⟩) hgw _).setCell (p := ⟨gw, 1, none⟩) hgw _).setCell (p := ⟨gw, 2, none⟩) hgw _), Lib.hid (((b7'.out.set_ 0 _).set_ 1 _).set_ 2 _)⟩
      clear c7 c8 c9 f7 f8 f9 b7' hx7'
      rintro V8 ⟨hx8, b8⟩
      have u0 : V8.cell? ⟨gw, 0, none⟩ = some (.int .i64 x.meeting) := b8.out.cell 0
      have ul0 := b8.out.lt
      go_wp2_with fail
      refine (digits_calls x.meeting _ hm0 hm1).mono ?_
      rintro e w3 ⟨S0, rfl, hS0, hb0, hx3⟩
      have hWb : Blk w3 gw 52 #[.int .i64 x.meeting, .slice pa x.people.length pc, .slice oa x.opts.length oc] := (Keep.of_ext (X := fun _ => False) hx3).blk b8.out id
      have hr3 := Lib.hid (hx8.out.trans hx3)
      have hW3 := Lib.hid hWb
      have hV1 : Hid (BS ((V ++ (⟨#[109, 101, 101, 116, 105, 110, 103, 32]⟩ : ByteArray)) ++ S0) (L0 ++ (txtMeeting ++ Lib.itoa x.meeting))) := Lib.hid (by rw [← List.append_assoc]; exact (hV.out.app (BS.lit txtMeeting)).app hS0)
      obtain ⟨L1, hL1⟩ : ∃ L1, Hid (L0 ++ (txtMeeting ++ Lib.itoa x.meeting) = L1) := ⟨_, rfl⟩
      have hL1b : Hid (L1.length ≤ 40960080) := Lib.hid (by
       have a := hL0b.out
       have b := itoa_len (n := x.meeting) (by omega) (by omega)
       rw [← hL1.out]
       simp [txtMeeting]
       omega)
      rw [hL1.out] at hV1
      have hxr9 := Lib.hid hx.out
      clear u0 ul0 hx3 hWb hS0 hV hx b8 hx8 hxe
      go_wp2_with fail
      go_loopw [5, 8] (fun v5 vj wr2 => ∃ (j : Nat) (V2 : ByteArray), j ≤ x.people.length ∧ v5 = .string V2 ∧ vj = .int .i64 j ∧ Hid (BS V2 (L1 ++ peopleX (x.people.take j))) ∧ Hid (Ext w3 wr2)) (fun _ vj _ => x.people.length - (intOf vj).toNat)
      case atStart => exact ⟨0, _, Nat.zero_le _, rfl, rfl, Lib.hid (by simpa [peopleX] using hV1.out), Lib.hid (Ext.refl _)⟩
      case round =>
       clear hV1 hb0
       rename World => wr2
       obtain ⟨j, V2, hj, rfl, rfl, hV2, hx2⟩ := hrel
       have hW2 := Lib.hid ((Keep.of_ext (X := fun _ => False) hx2.out).blk hW3.out id)
       have u1 : wr2.cell? ⟨gw, 1, none⟩ = some (.slice pa x.people.length pc) := hW2.out.cell 1
       have ul := hW2.out.lt
       have hV2b : V2.size ≤ 40962080 := by
        have a := hL1b.out
        have b := peopleX_len (l := x.people.take j) (fun p hp => hsx'.out.people p (List.mem_of_mem_take hp)) (by rw [List.length_take]; omega)
        rw [hV2.out.size, List.length_append]
        omega
       by_cases j1 : j < x.people.length
       ·obtain ⟨b2, o2, p, rfl, hb2, _, ep, k0⟩ := hpat'.out j j1 wr2 (hr3.out.trans hx2.out)
        have hp9 := h18.out.people p (List.mem_of_getElem? ep.out)
        obtain ⟨hp0, hp1⟩ : -1000000000000000000 ≤ p ∧ p ≤ 9223372036854775807 := hp9
        have hpk := Lib.hid (peopleX_take ep.out)
        clear ep
        by_cases j0 : j = 0
        ·have dj : ((j : Int) == 0) = true := by simp [j0]
         rw [if_pos j0] at hpk
         clear j0
         go_wp2_with fail
         refine (digits_calls p _ hp0 hp1).mono ?_
         rintro e w5 ⟨S1, rfl, hS1, hb1, hx5⟩
         have hx9 := Lib.hid (hx2.out.trans hx5)
         clear hx5 k0
         have hn9 : Hid (BS (((V2 ++ (⟨#[44, 32, 112, 101, 111, 112, 108, 101]⟩ : ByteArray)) ++ (⟨#[32]⟩ : ByteArray)) ++ S1) (L1 ++ peopleX (x.people.take (j + 1)))) := Lib.hid (by
          rw [hpk.out]
          simp only [txtP, ← List.append_assoc]
          exact ((hV2.out.app (BS.lit txtPeople)).app (BS.lit [32])).app hS1)
         clear hS1 hpk hV2
         go_wp2
         go_roundw
         case rel => first | exact ⟨j + 1, _, j1, rfl, by go_num, hn9, hx9⟩ | ((repeat apply Exists.intro); exact ⟨⟨j + 1, _, j1, rfl, by go_num, hn9, hx9⟩, rfl⟩)
         case measure => simp [intOf]; omega
        ·have dj : ((j : Int) == 0) = false := by rw [beq_eq_false_iff_ne]; omega
         rw [if_neg j0] at hpk
         clear j0
         go_wp2_with fail
         refine (digits_calls p _ hp0 hp1).mono ?_
         rintro e w5 ⟨S1, rfl, hS1, hb1, hx5⟩
         have hx9 := Lib.hid (hx2.out.trans hx5)
         clear hx5 k0
         have hn9 : Hid (BS ((V2 ++ (⟨#[32]⟩ : ByteArray)) ++ S1) (L1 ++ peopleX (x.people.take (j + 1)))) := Lib.hid (by
          rw [hpk.out, List.nil_append]
          simp only [txtP, ← List.append_assoc]
          exact (hV2.out.app (BS.lit [32])).app hS1)
         clear hS1 hpk hV2
         go_wp2
         go_roundw
         case rel => first | exact ⟨j + 1, _, j1, rfl, by go_num, hn9, hx9⟩ | ((repeat apply Exists.intro); exact ⟨⟨j + 1, _, j1, rfl, by go_num, hn9, hx9⟩, rfl⟩)
         case measure => simp [intOf]; omega
       ·have hV2' : Hid (BS V2 (L1 ++ peopleX x.people)) := Lib.hid (by have := hV2.out; rwa [List.take_of_length_le (by omega)] at this)
        obtain ⟨L2, hL2⟩ : ∃ L2, Hid (L1 ++ peopleX x.people = L2) := ⟨_, rfl⟩
        have hL2b : Hid (L2.length ≤ 40962080) := Lib.hid (by
         have a := hL1b.out
         have b := peopleX_len hsx'.out.people hp6
         rw [← hL2.out, List.length_append]
         omega)
        rw [hL2.out] at hV2'
        have hx4 := Lib.hid (hr3.out.trans hx2.out)
        clear hV2 hV2b hx2
        go_wp2_with fail
        rename World => wm
        go_loopw [5, 9] (fun v5 vk wr3 => ∃ (k : Nat) (V3 : ByteArray), k ≤ x.opts.length ∧ v5 = .string V3 ∧ vk = .int .i64 k ∧ Hid (BS V3 (L2 ++ optsX (x.opts.take k))) ∧ Hid (Blk wr3 gw 52 #[.int .i64 x.meeting, .slice pa x.people.length pc, .slice oa x.opts.length oc]) ∧ Hid (Ext wr wr3)) (fun _ vk _ => x.opts.length - (intOf vk).toNat)
        case atStart => exact ⟨0, _, Nat.zero_le _, rfl, rfl, Lib.hid (by simpa [optsX] using hV2'.out), hW2, hx4⟩
        case round =>
         clear hV2' hW2
         rename World => wr3
         obtain ⟨k, V3, hk, rfl, rfl, hV3, hW4, hxw⟩ := hrel
         have u2 : wr3.cell? ⟨gw, 2, none⟩ = some (.slice oa x.opts.length oc) := hW4.out.cell 2
         have ul2 := hW4.out.lt
         have hV3b : V3.size ≤ 41100000 := by
          have a := hL2b.out
          have b := optsX_len (l := x.opts.take k) (fun o ho => hsx'.out.opts o (List.mem_of_mem_take ho)) (by rw [List.length_take]; omega)
          rw [hV3.out.size, List.length_append]
          omega
         by_cases k1 : k < x.opts.length
         ·obtain ⟨b3, o3, o, sa, sc, rfl, hb3, _, eo, g1, g2, g3, gs⟩ := hoat'.out k k1 wr3 hxw.out
          have ho5 := Lib.hid (hsx'.out.opts o (List.mem_of_getElem? eo.out))
          obtain ⟨p1, p2⟩ := h18.out.opts o (List.mem_of_getElem? eo.out)
          have ho1 := Lib.hid p1
          have ho2 := Lib.hid p2
          have ho4 : o.spans.length ≤ 64 := ho5.out.2.2
          have ho3 : o.spans.length ≤ 100000 := by omega
          have hstep := Lib.hid (optsX_take eo.out)
          clear p1 p2 eo
          by_cases k0 : k = 0
          ·have dk : ((k : Int) == 0) = true := by simp [k0]
           rw [if_pos k0] at hstep
           clear k0
           go_wp2_with fail
           refine (rOption_calls (.slice sa o.spans.length sc) o _ ho1.out gs ho2.out ho3).mono ?_
           rintro e w6 ⟨S9, rfl, hS9, hx6⟩
           have hb9 : S9.size ≤ 4000 := by rw [hS9.size]; exact optX_len ho5.out.1 ho5.out.2.1 ho4
           have hE9 := Lib.hid (hxw.out.trans hx6)
           have hW9 := Lib.hid ((Keep.of_ext (X := fun _ => False) hx6).blk hW4.out id)
           have hn9 : Hid (BS (V3 ++ (⟨#[58, 32]⟩ : ByteArray) ++ S9) (L2 ++ optsX (x.opts.take (k + 1)))) := Lib.hid (by rw [hstep.out, ← List.append_assoc, ← List.append_assoc] <;> exact (hV3.out.app (BS.lit txtColon)).app hS9)
           clear hS9 hx6 hV3 u2 ul2 g1 g2 g3 hW4
           go_wp2
           go_roundw
           case rel => first | exact ⟨k + 1, _, k1, rfl, by go_num, hn9, hW9, hE9⟩ | ((repeat apply Exists.intro); exact ⟨⟨k + 1, _, k1, rfl, by go_num, hn9, hW9, hE9⟩, rfl⟩)
           case measure => simp [intOf]; omega
          ·have dk : ((k : Int) == 0) = false := by rw [beq_eq_false_iff_ne]; omega
           rw [if_neg k0] at hstep
           clear k0
           go_wp2_with fail
           refine (rOption_calls (.slice sa o.spans.length sc) o _ ho1.out gs ho2.out ho3).mono ?_
           rintro e w6 ⟨S9, rfl, hS9, hx6⟩
           have hb9 : S9.size ≤ 4000 := by rw [hS9.size]; exact optX_len ho5.out.1 ho5.out.2.1 ho4
           have hE9 := Lib.hid (hxw.out.trans hx6)
           have hW9 := Lib.hid ((Keep.of_ext (X := fun _ => False) hx6).blk hW4.out id)
           have hn9 : Hid (BS (V3 ++ (⟨#[59, 32, 111, 114, 32]⟩ : ByteArray) ++ S9) (L2 ++ optsX (x.opts.take (k + 1)))) := Lib.hid (by rw [hstep.out, ← List.append_assoc, ← List.append_assoc] <;> exact (hV3.out.app (BS.lit txtOr)).app hS9)
           clear hS9 hx6 hV3 u2 ul2 g1 g2 g3 hW4
           go_wp2
           go_roundw
           case rel => first | exact ⟨k + 1, _, k1, rfl, by go_num, hn9, hW9, hE9⟩ | ((repeat apply Exists.intro); exact ⟨⟨k + 1, _, k1, rfl, by go_num, hn9, hW9, hE9⟩, rfl⟩)
           case measure => simp [intOf]; omega
         ·have hfin : Hid (BS (V3 ++ (⟨#[10]⟩ : ByteArray)) (txtHead ++ (s.take (i + 1)).flatMap wishX)) := Lib.hid (by
           have h3 := hV3.out
           rw [List.take_of_length_le (by omega)] at h3
           rw [hnext.out]
           have := h3.app (BS.lit [10])
           rw [← hL2.out, ← hL1.out] at this
           simpa [wishX, List.append_assoc] using this)
          have hx9 := Lib.hid (hxr9.out.trans hxw.out)
          clear hV3
          go_wp2
          go_roundw
          case rel => first | exact ⟨i + 1, _, h1, by go_num, rfl, hfin, hx9⟩ | ((repeat apply Exists.intro); exact ⟨⟨i + 1, _, h1, by go_num, rfl, hfin, hx9⟩, rfl⟩)
          case measure => simp [intOf]; omega
     ·have hfin : Hid (BS V (txtHead ++ s.flatMap wishX)) := Lib.hid (by have := hV.out; rwa [List.take_of_length_le (by rw [hsl.out]; omega)] at this)
      clear hV
      go_wp2
      go_ret
      rw [R.out]
      exact ⟨_, rfl, hfin.out, hE2.out.trans hx.out⟩
 ·have d0 : (z != 0) = true := by simp [h0]
  have R : Hid (textT t l = []) := by
   show _ = _
   have hck : checkI t l = z := by unfold checkI; rw [if_neg (by rw [hz.out]; exact h0), hz.out]
   unfold textT
   rw [hck, if_neg h0]
  clear hz h0 hsz
  go_enter Tryz.func18, Tryz.ntmps18
  go_wp2_with fail
  refine (hv.out _ (by with_reducible repeat' (first | exact Ext.refl _ | assumption | refine Ext.drewN ?_ _ | refine Ext.drew ?_ | refine Ext.alloc ?_ _ | refine Ext.trans ?_ (by with_reducible assumption)))).mono ?_
  rintro e w1 ⟨rfl, hx1⟩
  have hB1 : Hid (Blk w1 w.heap.size 27 #[.slice ta t.length tc]) := Lib.hid ((Keep.of_ext (X := fun _ => False) hx1).blk (blk_new' rfl rfl) id)
  have hE1 := Lib.hid (((Ext.refl w).alloc (.cells #[.slice ta t.length tc] 27)).trans hx1)
  clear hx1 hv
  go_wp2
  go_ret
  rw [R.out]
  exact ⟨_, rfl, BS.lit [], hE1.out⟩
end Go.Proofs.YtjglidlmpjmjeaaGreatDoor
