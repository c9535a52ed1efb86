/- Merged parts: KZ, UB, UC. -/
import Derived.Test.YtjglidlmpjmjeaaGreatDoorKD
import Derived.Test.YtjglidlmpjmjeaaGreatDoorYSI
import Derived.Test.YtjglidlmpjmjeaaGreatDoorHE
import Derived.Deep.Cut
/- Walks of package core: the text of an option, Text. -/
namespace Go.Proofs.YtjglidlmpjmjeaaGreatDoor
open Go.RowKit Go.Shelf

/-! ### texts as lists of bytes -/
def BS (S : ByteArray) (l : List UInt8) : Prop := S = ⟨l.toArray⟩
theorem BS.lit (l : List UInt8) : BS ⟨l.toArray⟩ l := rfl
theorem BS.app {S T : ByteArray} {l m : List UInt8} (h : BS S l) (k : BS T m) : BS (S ++ T) (l ++ m) := by
 subst h
 subst k
 apply ByteArray.ext
 simp
theorem BS.size {S : ByteArray} {l : List UInt8} (h : BS S l) : S.size = l.length := by
 subst h
 simp [ByteArray.size]
theorem decDigits_len (k : Nat) : ∀ u : Nat, u < 10 ^ (k + 1) → (Lib.decDigits u).length ≤ k + 1 := by
 induction k with
 | zero => intro u hu; rw [Lib.decDigits, dif_pos (by simpa using hu)]; simp
 | succ k ih =>
  intro u hu
  rw [Lib.decDigits]
  split
  ·simp
  ·have := ih (u / 10) (by rw [Nat.pow_succ] at hu; omega)
   simp
   omega
theorem itoa_len {n : Int} (h0 : -9223372036854775808 ≤ n) (h1 : n ≤ 9223372036854775807) : (Lib.itoa n).length ≤ 20 := by
 unfold Lib.itoa
 split
 ·have := decDigits_len 18 n.natAbs (by omega)
  simp
  omega
 ·have := decDigits_len 18 n.toNat (by omega)
  omega
def txtRoom : List UInt8 := [114, 111, 111, 109, 32]
def txtNoRoom : List UInt8 := [110, 111, 32, 114, 111, 111, 109]
def txtNever : List UInt8 := [32, 110, 101, 118, 101, 114]
def txtFrom : List UInt8 := [32, 102, 114, 111, 109, 32]
def txtTo : List UInt8 := [32, 116, 111, 32]
def roomT (o : OptD) : List UInt8 := if 0 ≤ o.room then txtRoom ++ Lib.itoa o.room else txtNoRoom
def spanT (x : Int × Int) : List UInt8 := txtFrom ++ Lib.itoa x.1 ++ txtTo ++ Lib.itoa x.2
def optX (o : OptD) : List UInt8 := if o.spans.length = 0 then roomT o ++ txtNever else roomT o ++ o.spans.flatMap spanT
def Tab10 (w : World) : Prop := Lib.TabIs Tryz.prog w "internal/strconv.uint64pow10" .u64 Lib.pow10Tab
theorem Tab10.ext {w w' : World} (h : Tab10 w) (e : Ext w w') : Tab10 w' := by
 unfold Tab10 Lib.TabIs World.var? at h ⊢
 cases hg : (Tryz.prog).globalNamed "internal/strconv.uint64pow10" with
 | none => rw [hg] at h; cases h
 | some g =>
  rw [hg] at h
  simp only [Option.bind_some] at h ⊢
  cases ho : w.heap[g]? with
  | none => rw [ho] at h; cases h
  | some o => rw [e.heap (Array.getElem?_eq_some_iff.1 ho).1]; exact h
theorem ext_grow (w : World) (k : Nat) (os : Array Obj) : Ext w («Sort».grow (w.drewN k) os) := by
 have h : Ext (w.drewN k) («Sort».grow (w.drewN k) os) := show Below _ _ _ from ⟨rfl, rfl, rfl, by simp [«Sort».grow], fun i hi => Array.getElem?_append_left hi⟩
 exact ((Ext.refl w).drewN k).trans h
theorem itoa_calls (n : Int) (h0 : -9223372036854775808 ≤ n) (h1 : n ≤ 9223372036854775807) (w : World) (ht : Tab10 w) :
  Calls Tryz.prog 44 #[.int .i64 n] w fun e w' => ∃ S, e = .returned (.string S) ∧ BS S (Lib.itoa n) ∧ S.size ≤ 20 ∧ Ext w w' := by
 refine (Any.strconv_Itoa Tryz.laysItoaYtjglidlmpjmjeaaGreatDoor n h0 h1 w ht).mono ?_
 rintro e w' ⟨rfl, k, os, rfl⟩
 exact ⟨_, rfl, BS.lit _, by rw [(BS.lit _).size]; exact itoa_len h0 h1, ext_grow w k os⟩
def I64 (n : Int) : Prop := -9223372036854775808 ≤ n ∧ n ≤ 9223372036854775807
theorem spanT_len {x : Int × Int} (h : I64 x.1 ∧ I64 x.2) : (spanT x).length ≤ 60 := by
 have h1 := itoa_len h.1.1 h.1.2
 have h2 := itoa_len h.2.1 h.2.2
 simp [spanT, txtFrom, txtTo]
 omega
theorem spans_len {l : List (Int × Int)} (h : ∀ x ∈ l, I64 x.1 ∧ I64 x.2) : (l.flatMap spanT).length ≤ 60 * l.length := by
 induction l with
 | nil => simp
 | cons x l ih =>
  have h1 := spanT_len (h x List.mem_cons_self)
  have h2 := ih fun y hy => h y (List.mem_cons_of_mem _ hy)
  simp only [List.flatMap_cons, List.length_append, List.length_cons]
  omega
theorem roomT_len {o : OptD} (h : I64 o.room) : (roomT o).length ≤ 25 := by
 unfold roomT
 split
 ·have := itoa_len h.1 h.2
  simp [txtRoom]
  omega
 ·simp [txtNoRoom]
def ItCon (a b : Nat) (x y : Int) (k : Nat) (v : Value) (_ : World) : Prop := (k = a → ∃ S, v = .string S ∧ Hid (BS S (Lib.itoa x)) ∧ S.size ≤ 20) ∧ (k = b → ∃ S, v = .string S ∧ Hid (BS S (Lib.itoa y)) ∧ S.size ≤ 20)
theorem take_span {l : List (Int × Int)} {i : Nat} {x y : Int} (h : l[i]? = some (x, y)) (r : List UInt8) : r ++ (l.take (i + 1)).flatMap spanT = (r ++ (l.take i).flatMap spanT) ++ (((txtFrom ++ Lib.itoa x) ++ txtTo) ++ Lib.itoa y) := by
 rw [List.take_add_one, h, List.flatMap_append, List.append_assoc]
 simp [spanT]
set_option maxHeartbeats 1600000 in
set_option maxRecDepth 100000 in
theorem coreOption_calls (sv : Value) (o : OptD) (w : World) (hr : I64 o.room) (hs : Spans w sv o.spans) (hsp : ∀ x ∈ o.spans, I64 x.1 ∧ I64 x.2) (hsl : o.spans.length ≤ 100000) (ht : Tab10 w) :
  Calls Tryz.prog 45 #[.agg #[.int .i64 o.harm, .int .i64 o.room, sv]] w fun e w' => ∃ S, e = .returned (.string S) ∧ BS S (optX o) ∧ Ext w w' := by
 obtain ⟨oh, room, spans⟩ := o
 dsimp only at hr hs hsp hsl ⊢
 have hrm := Lib.hid hr
 obtain ⟨hr0, hr1⟩ := hr
 obtain ⟨sa, sc, rfl, hn, hc, hat⟩ := hs.open
 have hat' := Lib.hid hat
 have hT := Lib.hid ht
 have hsp' := Lib.hid hsp
 clear hs hat ht hsp
 by_cases hr : 0 ≤ room
 ·have d1 : decide (0 ≤ room) = true := decide_eq_true hr
  go_enter Tryz.func45, Tryz.ntmps45
  go_wp2_with fail
  refine (itoa_calls room (by omega) (by omega) _ (hT.out.ext (by exact (by with_reducible repeat' (first | exact Ext.refl _ | assumption | refine Ext.drewN ?_ _ | refine Ext.drew ?_ | refine Ext.alloc ?_ _ | refine Ext.trans ?_ (by with_reducible assumption)))))).mono ?_
  rintro e w1 ⟨S0, rfl, hS0, hb0, hx1⟩
  have hB : Hid (Blk w1 w.heap.size 55 #[.int .i64 oh, .int .i64 room, .slice sa spans.length sc]) := Lib.hid ((Keep.of_ext (X := fun _ => False) hx1).blk (blk_new' rfl rfl) id)
  have hE : Hid (Ext w w1) := Lib.hid (((Ext.refl w).alloc _).trans hx1)
  obtain ⟨S, hSd⟩ : ∃ S, Hid ((⟨#[114, 111, 111, 109, 32]⟩ : ByteArray) ++ S0 = S) := ⟨_, rfl⟩
  have hS : Hid (BS S (roomT ⟨oh, room, spans⟩)) := Lib.hid (by rw [← hSd.out]; unfold roomT; rw [if_pos hr]; exact (BS.lit txtRoom).app hS0)
  clear hx1 hS0
  go_upto_region 4 with (fail)
  rw [hSd.out]
  clear hSd
  have hSb : S.size ≤ 30 := by rw [hS.out.size]; have := roomT_len (o := ⟨oh, room, spans⟩) hrm.out; omega
  have c2 : w1.cell? ⟨w.heap.size, 2, none⟩ = some (.slice sa spans.length sc) := hB.out.cell 2
  have l2 := hB.out.lt
  by_cases hz : spans.length = 0
  ·have d2 : ((spans.length : Int) == 0) = true := by simp [hz]
   have R : Hid (optX ⟨oh, room, spans⟩ = roomT ⟨oh, room, spans⟩ ++ txtNever) := if_pos hz
   clear hz
   go_wp2
   go_ret
   rw [R.out]
   exact ⟨_, rfl, hS.out.app (BS.lit _), hE.out⟩
  ·have d2 : ((spans.length : Int) == 0) = false := by rw [beq_eq_false_iff_ne]; omega
   have R : Hid (optX ⟨oh, room, spans⟩ = roomT ⟨oh, room, spans⟩ ++ spans.flatMap spanT) := if_neg hz
   clear hz
   go_wp2_with fail
   go_loopw [3, 22] (fun v3 vi wr => ∃ (i : Nat) (V : ByteArray), i ≤ spans.length ∧ v3 = .string V ∧ vi = .int .i64 i ∧ Hid (BS V (roomT ⟨oh, room, spans⟩ ++ (spans.take i).flatMap spanT)) ∧ V.size ≤ 30 + 60 * i ∧ Hid (Ext w wr)) (fun _ vi _ => spans.length - (intOf vi).toNat)
   case atStart => exact ⟨0, S, Nat.zero_le _, rfl, rfl, Lib.hid (by simpa using hS.out), by omega, hE⟩
   case round =>
    clear hS hE hSb c2 l2 hB
    obtain ⟨i, V, hi, rfl, rfl, hV, hVb, hx⟩ := hrel
    by_cases h1 : i < spans.length
    ·obtain ⟨b1, o1, x, y, rfl, hb1, _, ex, g1, g2⟩ := hat'.out i h1 wr hx.out
     obtain ⟨hx1, hy1⟩ := hsp'.out (x, y) (List.mem_of_getElem? ex.out)
     have hT9 := Lib.hid (hT.out.ext hx.out)
     obtain ⟨hx2, hx3⟩ : -9223372036854775808 ≤ x ∧ x ≤ 9223372036854775807 := hx1
     obtain ⟨hy2, hy3⟩ : -9223372036854775808 ≤ y ∧ y ≤ 9223372036854775807 := hy1
     have hVb2 : V.size ≤ 6100000 := by omega
     have hnx : Hid (∀ V', BS V' (((txtFrom ++ Lib.itoa x) ++ txtTo) ++ Lib.itoa y) → BS (V ++ V') (roomT ⟨oh, room, spans⟩ ++ (spans.take (i + 1)).flatMap spanT)) := Lib.hid fun V' h => by rw [take_span ex.out]; exact hV.out.app h
     have hxn : Hid (∀ V', BS V' (((txtFrom ++ Lib.itoa x) ++ txtTo) ++ Lib.itoa y) → (V ++ V').size ≤ 30 + 60 * (i + 1)) := Lib.hid fun V' h => by
      have e := (hV.out.app h).size
      rw [e, List.length_append, ← hV.out.size]
      have := spanT_len (x := (x, y)) ⟨⟨hx2, hx3⟩, ⟨hy2, hy3⟩⟩
      simp only [spanT] at this
      omega
     clear hVb
     go_upto_region 9 with (fail)
     have hbx : Hid (Ext w (wr.alloc (.cells #[.int .i64 x, .int .i64 y] 84))) := Lib.hid (hx.out.alloc _)
     obtain ⟨W0, hW0⟩ : ∃ W0, wr.alloc (.cells #[.int .i64 x, .int .i64 y] 84) = W0 := ⟨_, rfl⟩
     have hbb : Blk W0 wr.heap.size 84 #[.int .i64 x, .int .i64 y] := by rw [← hW0]; exact Blk.new _ _ _
     have hT0 : Hid (Tab10 W0) := Lib.hid (by rw [← hW0]; exact hT9.out.ext ((Ext.refl wr).alloc _))
     rw [hW0] at hbx ⊢
     have q1 := After.cell (show W0.cell? ⟨wr.heap.size, 0, none⟩ = some (.int .i64 x) from hbb.cell 0)
     have q2 := After.cell (show W0.cell? ⟨wr.heap.size, 1, none⟩ = some (.int .i64 y) from hbb.cell 1)
     clear hW0 hbb g1 g2 hx hV
     (refine wp_region_held [] [0, 1, 2, 3, 4, 5, 6, 7, 8, 9, 10, 11] [] (ItCon 3 8 x y) (by kernel_rfl) (by kernel_rfl) ?_; simp only [pickL]; with_reducible refine wpQuiet_nil ?_)
     (refine held_quiet [0, 1, 2] [3, 4, 5, 6, 7, 8, 9, 10, 11] (by kernel_rfl) (by kernel_rfl) ?_; simp only [pickL, List.drop]; (repeat (go_big_quiet_step (fail))); with_reducible refine wpQuiet_nil ?_)
     (refine held_call 3 [4, 5, 6, 7, 8, 9, 10, 11] rfl (by kernel_rfl) 44 (#[.int .i64 x]) (fun W => by kernel_rfl) rfl ?_ ?_ ?_)
     ·exact fun _ _ _ _ h => h
     ·refine fun W hW _ => (itoa_calls x hx2 hx3 W (hT0.out.ext hW)).mono ?_
      rintro e W' ⟨S9, rfl, h1, h2, h3⟩
      exact ⟨_, rfl, h3, fun _ => ⟨S9, rfl, h1, h2⟩, fun h => by cases h⟩
     rintro v ⟨Y, hY, hCv⟩
     obtain ⟨Sx, rfl, hSx, hbx1⟩ := hCv.1 rfl
     clear hCv hY Y
     simp only [Act.put, List.setIfInBounds_toArray, List.set_cons_succ, List.set_cons_zero]
     (refine held_quiet [4, 5, 6, 7] [8, 9, 10, 11] (by kernel_rfl) (by kernel_rfl) ?_; simp only [pickL, List.drop]; (repeat (go_big_quiet_step (fail))); with_reducible refine wpQuiet_nil ?_)
     (refine held_call 8 [9, 10, 11] rfl (by kernel_rfl) 44 (#[.int .i64 y]) (fun W => by kernel_rfl) rfl ?_ ?_ ?_)
     ·exact fun _ _ _ _ h => h
     ·refine fun W hW _ => (itoa_calls y hy2 hy3 W (hT0.out.ext hW)).mono ?_
      rintro e W' ⟨S9, rfl, h1, h2, h3⟩
      exact ⟨_, rfl, h3, (fun h => by cases h), fun _ => ⟨S9, rfl, h1, h2⟩⟩
     rintro v ⟨Y, hY, hCv⟩
     obtain ⟨Sy, rfl, hSy, hby1⟩ := hCv.2 rfl
     clear hCv hY Y
     simp only [Act.put, List.setIfInBounds_toArray, List.set_cons_succ, List.set_cons_zero]
     (refine held_quiet [9, 10, 11] [] (by kernel_rfl) (by kernel_rfl) ?_; simp only [pickL, List.drop]; (repeat (go_big_quiet_step (fail))); with_reducible refine wpQuiet_nil ?_)
     intro w9 hx9 hfc htk Q0 hQ0
     simp only [pickL]
     have hE9 := Lib.hid (hbx.out.trans hx9)
     have hB9 : Hid (BS _ (((txtFrom ++ Lib.itoa x) ++ txtTo) ++ Lib.itoa y)) := Lib.hid ((((BS.lit txtFrom).app hSx.out).app (BS.lit txtTo)).app hSy.out)
     have hn1 := Lib.hid (hnx.out _ hB9.out)
     have hn2 := hxn.out _ hB9.out
     clear hfc htk q1 q2 hx9 hbx hT0 hnx hxn hB9 hSx hSy
     refine hQ0 _ _ ?_
     clear hQ0 Q0
     go_wp2
     go_roundw
     case rel => first | exact ⟨i + 1, _, h1, rfl, by go_num, hn1, hn2, hE9⟩ | ((repeat apply Exists.intro); exact ⟨⟨i + 1, _, h1, rfl, by go_num, hn1, hn2, hE9⟩, rfl⟩)
     case measure => simp [intOf]; omega
    ·have hfin : Hid (BS V (optX ⟨oh, room, spans⟩)) := Lib.hid (by have := hV.out; rw [List.take_of_length_le (by omega)] at this; rw [R.out]; exact this)
     clear hV
     go_wp2
     go_ret
     exact ⟨_, rfl, hfin.out, hx.out⟩
 ·have d1 : decide (0 ≤ room) = false := decide_eq_false hr
  go_enter Tryz.func45, Tryz.ntmps45
  go_upto_region 4 with (fail)
  obtain ⟨w1, hw1⟩ : ∃ w1, w.alloc (.cells #[.int .i64 oh, .int .i64 room, .slice sa spans.length sc] 55) = w1 := ⟨_, rfl⟩
  have hB : Hid (Blk w1 w.heap.size 55 #[.int .i64 oh, .int .i64 room, .slice sa spans.length sc]) := Lib.hid (by rw [← hw1]; exact blk_new' rfl rfl)
  have hE : Hid (Ext w w1) := Lib.hid (by rw [← hw1]; exact (Ext.refl w).alloc _)
  obtain ⟨S, hSd⟩ : ∃ S, Hid ((⟨#[110, 111, 32, 114, 111, 111, 109]⟩ : ByteArray) = S) := ⟨_, rfl⟩
  have hS : Hid (BS S (roomT ⟨oh, room, spans⟩)) := Lib.hid (by rw [← hSd.out]; unfold roomT; rw [if_neg hr]; exact BS.lit txtNoRoom)
  rw [hw1, hSd.out]
  clear hw1 hSd
  have hSb : S.size ≤ 30 := by rw [hS.out.size]; have := roomT_len (o := ⟨oh, room, spans⟩) hrm.out; omega
  have c2 : w1.cell? ⟨w.heap.size, 2, none⟩ = some (.slice sa spans.length sc) := hB.out.cell 2
  have l2 := hB.out.lt
  by_cases hz : spans.length = 0
  ·have d2 : ((spans.length : Int) == 0) = true := by simp [hz]
   have R : Hid (optX ⟨oh, room, spans⟩ = roomT ⟨oh, room, spans⟩ ++ txtNever) := if_pos hz
   clear hz
   go_wp2
   go_ret
   rw [R.out]
   exact ⟨_, rfl, hS.out.app (BS.lit _), hE.out⟩
  ·have d2 : ((spans.length : Int) == 0) = false := by rw [beq_eq_false_iff_ne]; omega
   have R : Hid (optX ⟨oh, room, spans⟩ = roomT ⟨oh, room, spans⟩ ++ spans.flatMap spanT) := if_neg hz
   clear hz
   go_wp2_with fail
   go_loopw [3, 22] (fun v3 vi wr => ∃ (i : Nat) (V : ByteArray), i ≤ spans.length ∧ v3 = .string V ∧ vi = .int .i64 i ∧ Hid (BS V (roomT ⟨oh, room, spans⟩ ++ (spans.take i).flatMap spanT)) ∧ V.size ≤ 30 + 60 * i ∧ Hid (Ext w wr)) (fun _ vi _ => spans.length - (intOf vi).toNat)
   case atStart => exact ⟨0, S, Nat.zero_le _, rfl, rfl, Lib.hid (by simpa using hS.out), by omega, hE⟩
   case round =>
    clear hS hE hSb c2 l2 hB
    obtain ⟨i, V, hi, rfl, rfl, hV, hVb, hx⟩ := hrel
    by_cases h1 : i < spans.length
    ·obtain ⟨b1, o1, x, y, rfl, hb1, _, ex, g1, g2⟩ := hat'.out i h1 wr hx.out
     obtain ⟨hx1, hy1⟩ := hsp'.out (x, y) (List.mem_of_getElem? ex.out)
     have hT9 := Lib.hid (hT.out.ext hx.out)
     obtain ⟨hx2, hx3⟩ : -9223372036854775808 ≤ x ∧ x ≤ 9223372036854775807 := hx1
     obtain ⟨hy2, hy3⟩ : -9223372036854775808 ≤ y ∧ y ≤ 9223372036854775807 := hy1
     have hVb2 : V.size ≤ 6100000 := by omega
     have hnx : Hid (∀ V', BS V' (((txtFrom ++ Lib.itoa x) ++ txtTo) ++ Lib.itoa y) → BS (V ++ V') (roomT ⟨oh, room, spans⟩ ++ (spans.take (i + 1)).flatMap spanT)) := Lib.hid fun V' h => by rw [take_span ex.out]; exact hV.out.app h
     have hxn : Hid (∀ V', BS V' (((txtFrom ++ Lib.itoa x) ++ txtTo) ++ Lib.itoa y) → (V ++ V').size ≤ 30 + 60 * (i + 1)) := Lib.hid fun V' h => by
      have e := (hV.out.app h).size
      rw [e, List.length_append, ← hV.out.size]
      have := spanT_len (x := (x, y)) ⟨⟨hx2, hx3⟩, ⟨hy2, hy3⟩⟩
      simp only [spanT] at this
      omega
     clear hVb
     go_upto_region 9 with (fail)
     have hbx : Hid (Ext w (wr.alloc (.cells #[.int .i64 x, .int .i64 y] 84))) := Lib.hid (hx.out.alloc _)
     obtain ⟨W0, hW0⟩ : ∃ W0, wr.alloc (.cells #[.int .i64 x, .int .i64 y] 84) = W0 := ⟨_, rfl⟩
     have hbb : Blk W0 wr.heap.size 84 #[.int .i64 x, .int .i64 y] := by rw [← hW0]; exact Blk.new _ _ _
     have hT0 : Hid (Tab10 W0) := Lib.hid (by rw [← hW0]; exact hT9.out.ext ((Ext.refl wr).alloc _))
     rw [hW0] at hbx ⊢
     have q1 := After.cell (show W0.cell? ⟨wr.heap.size, 0, none⟩ = some (.int .i64 x) from hbb.cell 0)
     have q2 := After.cell (show W0.cell? ⟨wr.heap.size, 1, none⟩ = some (.int .i64 y) from hbb.cell 1)
     clear hW0 hbb g1 g2 hx hV
     (refine wp_region_held [] [0, 1, 2, 3, 4, 5, 6, 7, 8, 9, 10, 11] [] (ItCon 3 8 x y) (by kernel_rfl) (by kernel_rfl) ?_; simp only [pickL]; with_reducible refine wpQuiet_nil ?_)
     (refine held_quiet [0, 1, 2] [3, 4, 5, 6, 7, 8, 9, 10, 11] (by kernel_rfl) (by kernel_rfl) ?_; simp only [pickL, List.drop]; (repeat (go_big_quiet_step (fail))); with_reducible refine wpQuiet_nil ?_)
     (refine held_call 3 [4, 5, 6, 7, 8, 9, 10, 11] rfl (by kernel_rfl) 44 (#[.int .i64 x]) (fun W => by kernel_rfl) rfl ?_ ?_ ?_)
     ·exact fun _ _ _ _ h => h
     ·refine fun W hW _ => (itoa_calls x hx2 hx3 W (hT0.out.ext hW)).mono ?_
      rintro e W' ⟨S9, rfl, h1, h2, h3⟩
      exact ⟨_, rfl, h3, fun _ => ⟨S9, rfl, h1, h2⟩, fun h => by cases h⟩
     rintro v ⟨Y, hY, hCv⟩
     obtain ⟨Sx, rfl, hSx, hbx1⟩ := hCv.1 rfl
     clear hCv hY Y
     simp only [Act.put, List.setIfInBounds_toArray, List.set_cons_succ, List.set_cons_zero]
     (refine held_quiet [4, 5, 6, 7] [8, 9, 10, 11] (by kernel_rfl) (by kernel_rfl) ?_; simp only [pickL, List.drop]; (repeat (go_big_quiet_step (fail))); with_reducible refine wpQuiet_nil ?_)
     (refine held_call 8 [9, 10, 11] rfl (by kernel_rfl) 44 (#[.int .i64 y]) (fun W => by kernel_rfl) rfl ?_ ?_ ?_)
     ·exact fun _ _ _ _ h => h
     ·refine fun W hW _ => (itoa_calls y hy2 hy3 W (hT0.out.ext hW)).mono ?_
      rintro e W' ⟨S9, rfl, h1, h2, h3⟩
      exact ⟨_, rfl, h3, (fun h => by cases h), fun _ => ⟨S9, rfl, h1, h2⟩⟩
     rintro v ⟨Y, hY, hCv⟩
     obtain ⟨Sy, rfl, hSy, hby1⟩ := hCv.2 rfl
     clear hCv hY Y
     simp only [Act.put, List.setIfInBounds_toArray, List.set_cons_succ, List.set_cons_zero]
     (refine held_quiet [9, 10, 11] [] (by kernel_rfl) (by kernel_rfl) ?_; simp only [pickL, List.drop]; (repeat (go_big_quiet_step (fail))); with_reducible refine wpQuiet_nil ?_)
     intro w9 hx9 hfc htk Q0 hQ0
     simp only [pickL]
     have hE9 := Lib.hid (hbx.out.trans hx9)
     have hB9 : Hid (BS _ (((txtFrom ++ Lib.itoa x) ++ txtTo) ++ Lib.itoa y)) := Lib.hid ((((BS.lit txtFrom).app hSx.out).app (BS.lit txtTo)).app hSy.out)
     have hn1 := Lib.hid (hnx.out _ hB9.out)
     have hn2 := hxn.out _ hB9.out
     clear hfc htk q1 q2 hx9 hbx hT0 hnx hxn hB9 hSx hSy
     refine hQ0 _ _ ?_
     clear hQ0 Q0
     go_wp2
     go_roundw
     case rel => first | exact ⟨i + 1, _, h1, rfl, by go_num, hn1, hn2, hE9⟩ | ((repeat apply Exists.intro); exact ⟨⟨i + 1, _, h1, rfl, by go_num, hn1, hn2, hE9⟩, rfl⟩)
     case measure => simp [intOf]; omega
    ·have hfin : Hid (BS V (optX ⟨oh, room, spans⟩)) := Lib.hid (by have := hV.out; rw [List.take_of_length_le (by omega)] at this; rw [R.out]; exact this)
     clear hV
     go_wp2
     go_ret
     exact ⟨_, rfl, hfin.out, hx.out⟩
end Go.Proofs.YtjglidlmpjmjeaaGreatDoor

/- The text of a selection, in plain words. -/
namespace Go.Proofs.YtjglidlmpjmjeaaGreatDoor
open Go.RowKit Go.Shelf

def txtHead : List UInt8 := [116, 104, 101, 115, 101, 32, 109, 101, 101, 116, 105, 110, 103, 115, 32, 99, 97, 110, 110, 111, 116, 32, 97, 108, 108, 32, 115, 116, 97, 110, 100, 58, 10]
def txtMeeting : List UInt8 := [109, 101, 101, 116, 105, 110, 103, 32]
def txtPeople : List UInt8 := [44, 32, 112, 101, 111, 112, 108, 101]
def txtColon : List UInt8 := [58, 32]
def txtOr : List UInt8 := [59, 32, 111, 114, 32]
def txtP (p : Int) : List UInt8 := [32] ++ Lib.itoa p
def peopleX (l : List Int) : List UInt8 := if l.length = 0 then [] else txtPeople ++ l.flatMap txtP
def optsX : List OptD → List UInt8
 | [] => []
 | o :: r => txtColon ++ optX o ++ r.flatMap fun o => txtOr ++ optX o
def wishX (x : WishD) : List UInt8 := txtMeeting ++ Lib.itoa x.meeting ++ peopleX x.people ++ optsX x.opts ++ [10]
def textT (t : List WishD) (l : List Int) : List UInt8 := if checkI t l = 0 then (if l.length = 0 then [] else txtHead ++ (subT t l).flatMap wishX) else []
theorem peopleX_take {l : List Int} {i : Nat} {p : Int} (h : l[i]? = some p) : peopleX (l.take (i + 1)) = peopleX (l.take i) ++ ((if i = 0 then txtPeople else []) ++ txtP p) := by
 have hi := (List.getElem?_eq_some_iff.1 h).1
 unfold peopleX
 rw [if_neg (by rw [List.length_take]; omega), List.take_add_one, h, List.flatMap_append]
 by_cases h0 : i = 0
 ·subst h0
  simp
 ·rw [if_neg (by rw [List.length_take]; omega), if_neg h0]
  simp
theorem optsX_app : ∀ {l : List OptD} (o : OptD), l ≠ [] → optsX (l ++ [o]) = optsX l ++ (txtOr ++ optX o)
 | [], _, h => absurd rfl h
 | x :: r, o, _ => by simp [optsX]
theorem optsX_take {l : List OptD} {i : Nat} {o : OptD} (h : l[i]? = some o) : optsX (l.take (i + 1)) = optsX (l.take i) ++ ((if i = 0 then txtColon else txtOr) ++ optX o) := by
 have hi := (List.getElem?_eq_some_iff.1 h).1
 rw [List.take_add_one, h]
 by_cases h0 : i = 0
 ·subst h0
  simp [optsX]
 ·rw [if_neg h0, Option.toList_some, optsX_app o (by intro e; have := congrArg List.length e; rw [List.length_take, List.length_nil] at this; omega)]
theorem wishes_take {t : List WishD} {l : List Int} {i : Nat} {y : WishD} (h : (subT t l)[i]? = some y) (r : List UInt8) : r ++ ((subT t l).take (i + 1)).flatMap wishX = (r ++ ((subT t l).take i).flatMap wishX) ++ wishX y := by
 rw [List.take_add_one, h, List.flatMap_append, List.append_assoc]
 simp

/-! ### how long they are -/
structure Sized (x : WishD) : Prop where
 meeting : I64 x.meeting
 people : ∀ p ∈ x.people, I64 p
 few : x.people.length ≤ 64
 opts : ∀ o ∈ x.opts, I64 o.room ∧ (∀ s ∈ o.spans, I64 s.1 ∧ I64 s.2) ∧ o.spans.length ≤ 64
 fewo : x.opts.length ≤ 16
theorem optX_len {o : OptD} (h : I64 o.room) (hs : ∀ s ∈ o.spans, I64 s.1 ∧ I64 s.2) (hl : o.spans.length ≤ 64) : (optX o).length ≤ 4000 := by
 have h1 := roomT_len h
 have h2 := spans_len hs
 unfold optX
 split
 ·simp [txtNever]; omega
 ·simp only [List.length_append]; omega
theorem txtP_len {p : Int} (h : I64 p) : (txtP p).length ≤ 21 := by
 have := itoa_len h.1 h.2
 simp [txtP]; omega
theorem flat_len {α : Type} {f : α → List UInt8} {k : Nat} : ∀ {l : List α}, (∀ x ∈ l, (f x).length ≤ k) → (l.flatMap f).length ≤ k * l.length
 | [], _ => by simp
 | x :: l, h => by
  have h1 := h x List.mem_cons_self
  have h2 := flat_len (l := l) fun y hy => h y (List.mem_cons_of_mem _ hy)
  simp only [List.flatMap_cons, List.length_append, List.length_cons, Nat.mul_add]
  omega
theorem peopleX_len {l : List Int} (h : ∀ p ∈ l, I64 p) (hl : l.length ≤ 64) : (peopleX l).length ≤ 2000 := by
 have := flat_len (f := txtP) (k := 21) fun p hp => txtP_len (h p hp)
 unfold peopleX
 split
 ·simp
 ·simp [txtPeople] at *; omega
theorem optsX_len {l : List OptD} (h : ∀ o ∈ l, I64 o.room ∧ (∀ s ∈ o.spans, I64 s.1 ∧ I64 s.2) ∧ o.spans.length ≤ 64) (hl : l.length ≤ 16) : (optsX l).length ≤ 70000 := by
 have hx : ∀ o ∈ l, (txtOr ++ optX o).length ≤ 4010 := fun o ho => by
  obtain ⟨h1, h2, h3⟩ := h o ho
  have := optX_len h1 h2 h3
  simp [txtOr]; omega
 cases l with
 | nil => simp [optsX]
 | cons o r =>
  have h1 := hx o List.mem_cons_self
  have h2 := flat_len (l := r) (f := fun o => txtOr ++ optX o) (k := 4010) fun y hy => hx y (List.mem_cons_of_mem _ hy)
  simp only [List.length_cons] at hl
  simp only [optsX, List.length_append, txtColon, txtOr, List.length_cons, List.length_nil] at h1 h2 ⊢
  omega
theorem wishX_len {x : WishD} (h : Sized x) : (wishX x).length ≤ 80000 := by
 have h1 := itoa_len h.meeting.1 h.meeting.2
 have h2 := peopleX_len h.people h.few
 have h3 := optsX_len h.opts h.fewo
 simp [wishX, txtMeeting]
 omega
end Go.Proofs.YtjglidlmpjmjeaaGreatDoor

/- Walk of package core: Text. -/
namespace Go.Proofs.YtjglidlmpjmjeaaGreatDoor
open Go.RowKit Go.Shelf

theorem run_field_task (a : Option Addr) (n c : Nat) (w : World) : (Instr.field 27 (.agg #[.slice a n c]) 0).run Tryz.prog w = .ok (.slice a n c) w := by kernel_rfl
attribute [local go_sem] run_field_task
theorem sized_sub {t : List WishD} {l : List Int} (h : ∀ x ∈ t, Sized x) (hi : ∀ x ∈ l, idxB x t.length = true) : ∀ x ∈ subT t l, Sized x := fun y hy => by
 obtain ⟨x, hx, rfl⟩ := List.mem_map.1 hy
 obtain ⟨n, rfl, hn⟩ := idxB_nat (hi x hx)
 rw [Int.toNat_natCast, List.getElem?_eq_getElem hn, Option.getD_some]
 exact h _ (List.getElem_mem hn)
theorem head_len {s : List WishD} (h : ∀ x ∈ s, Sized x) (hl : s.length ≤ 512) (i : Nat) : (txtHead ++ (s.take i).flatMap wishX).length ≤ 40960040 := by
 have h1 := flat_len (l := s.take i) (f := wishX) (k := 80000) fun x hx => wishX_len (h x (List.mem_of_mem_take hx))
 have h2 : (s.take i).length ≤ 512 := by rw [List.length_take]; omega
 have h3 : 80000 * (s.take i).length ≤ 80000 * 512 := Nat.mul_le_mul_left _ h2
 rw [List.length_append, show txtHead.length = 33 from rfl]
 omega
set_option maxHeartbeats 3200000 in
set_option maxRecDepth 100000 in
theorem text_calls (wv lv : Value) (t : List WishD) (l : List Int) (w : World) (h : Wishes w wv t) (hl : Ints w lv l) (hsz : validT t = 0 → ∀ x ∈ t, Sized x) (ht : Tab10 w) :
  Calls Tryz.prog 17 #[.agg #[wv], lv] w fun e w' => ∃ S, e = .returned (.string S) ∧ BS S (textT t l) ∧ Ext w w' := by
 have hT := Lib.hid h
 have hL := Lib.hid hl
 have hTab := Lib.hid ht
 obtain ⟨ta, tc, rfl⟩ := h.form
 obtain ⟨la, lc, rfl⟩ := hl.form
 have hll := hl.len
 clear h hl ht
 obtain ⟨z, hz⟩ : ∃ z, Hid (checkI t l = z) := ⟨_, rfl⟩
 have hck : Hid (∀ W, Ext w W → Calls Tryz.prog 41 #[.agg #[.slice ta t.length tc], .slice la l.length lc] W fun e w' => e = .returned (.int .i64 z) ∧ Ext W w') := fun W hW => hz.out ▸ check_core_calls _ _ t l W (hT.out.ext hW) (hL.out.ext hW)
 by_cases h0 : z = 0
 ·have d0 : (z != 0) = false := by simp [h0]
  have hz0 : checkI t l = 0 := by rw [hz.out, h0]
  obtain ⟨h5, hi⟩ := sel_few hz0
  have hi' := Lib.hid hi
  have hR0 : Hid (textT t l = if l.length = 0 then [] else txtHead ++ (subT t l).flatMap wishX) := if_pos hz0
  obtain ⟨s, hs⟩ : ∃ s, Hid (subT t l = s) := ⟨_, rfl⟩
  have hss : Hid (∀ x ∈ s, Sized x) := Lib.hid (hs.out ▸ sized_sub (hsz (checkI_ok hz0).1) hi)
  have hs5 : s.length ≤ 512 := by rw [← hs.out, sub_len]; exact h5
  clear hz hz0 h0 hi hsz
  by_cases hl0 : l.length = 0
  ·have d1 : ((l.length : Int) == 0) = true := by simp [hl0]
   have R : Hid (textT t l = []) := by show _ = _; rw [hR0.out, if_pos hl0]
   clear hR0 hl0
   go_enter Tryz.func17, Tryz.ntmps17
   go_wp2_with fail
   refine (hck.out _ (by with_reducible repeat' (first | exact Ext.refl _ | assumption | refine Ext.drewN ?_ _ | refine Ext.drew ?_ | refine Ext.alloc ?_ _ | refine Ext.trans ?_ (by with_reducible assumption)))).mono ?_
   rintro e w1 ⟨rfl, hx1⟩
   have hB1 : Hid (Blk w1 w.heap.size 27 #[.slice ta t.length tc]) := Lib.hid ((Keep.of_ext (X := fun _ => False) hx1).blk (blk_new' rfl rfl) id)
   have hE1 := Lib.hid (((Ext.refl w).alloc (.cells #[.slice ta t.length tc] 27)).trans hx1)
   clear hx1 hck
   go_wp2
   go_ret
   rw [R.out]
   exact ⟨_, rfl, BS.lit [], hE1.out⟩
  ·have d1 : ((l.length : Int) == 0) = false := by rw [beq_eq_false_iff_ne]; omega
   have R : Hid (textT t l = txtHead ++ s.flatMap wishX) := by show _ = _; rw [hR0.out, if_neg hl0, hs.out]
   clear hR0 hl0
   go_enter Tryz.func17, Tryz.ntmps17
   go_wp2_with fail
   refine (hck.out _ (by with_reducible repeat' (first | exact Ext.refl _ | assumption | refine Ext.drewN ?_ _ | refine Ext.drew ?_ | refine Ext.alloc ?_ _ | refine Ext.trans ?_ (by with_reducible assumption)))).mono ?_
   rintro e w1 ⟨rfl, hx1⟩
   have hB1 : Hid (Blk w1 w.heap.size 27 #[.slice ta t.length tc]) := Lib.hid ((Keep.of_ext (X := fun _ => False) hx1).blk (blk_new' rfl rfl) id)
   have hE1 := Lib.hid (((Ext.refl w).alloc (.cells #[.slice ta t.length tc] 27)).trans hx1)
   clear hx1 hck
   have c0 : w1.cell? ⟨w.heap.size, 0, none⟩ = some (.slice ta t.length tc) := hB1.out.cell 0
   have l0 := hB1.out.lt
   go_wp2_with fail
   refine (sub_calls _ _ t l w1 (hT.out.ext hE1.out) (hL.out.ext hE1.out) hi'.out (by omega)).mono ?_
   rintro e w2 ⟨sv, rfl, hsv, hx2⟩
   rw [hs.out] at hsv
   have hE2 := Lib.hid (hE1.out.trans hx2)
   obtain ⟨sa0, sc0, rfl, hsn, hsc, hsat⟩ := hsv.open
   have hsat' := Lib.hid hsat
   clear hsat hsv hx2 c0 l0 hB1 hE1 hs
   go_wp2_with fail
   go_loopw [26, 5] (fun vi v5 wr => ∃ (i : Nat) (V : ByteArray), i ≤ s.length ∧ vi = .int .i64 i ∧ v5 = .string V ∧ Hid (BS V (txtHead ++ (s.take i).flatMap wishX)) ∧ Hid (Ext w2 wr)) (fun vi _ _ => s.length - (intOf vi).toNat)
   case atStart => exact ⟨0, _, Nat.zero_le _, rfl, rfl, Lib.hid (show BS ⟨txtHead.toArray⟩ (txtHead ++ []) by rw [List.append_nil]; exact BS.lit txtHead), Lib.hid (Ext.refl _)⟩
   case round =>
    obtain ⟨i, V, hi, rfl, rfl, hV, hx⟩ := hrel
    by_cases h1 : i < s.length
    ·obtain ⟨b1, o1, x, pa, pc, oa, oc, rfl, hb1, _, ex, g1, g2, g3, gp, go⟩ := hsat'.out i h1 wr hx.out
     have hsx := hss.out x (List.mem_of_getElem? ex.out)
     have hsx' := Lib.hid hsx
     obtain ⟨hm0, hm1⟩ : -9223372036854775808 ≤ x.meeting ∧ x.meeting ≤ 9223372036854775807 := hsx.meeting
     have hVb : V.size ≤ 40960040 := by rw [hV.out.size]; exact head_len hss.out hs5 i
     obtain ⟨L0, hL0⟩ : ∃ L0, Hid (txtHead ++ (s.take i).flatMap wishX = L0) := ⟨_, rfl⟩
     have hL0b : Hid (L0.length ≤ 40960040) := Lib.hid (hL0.out ▸ head_len hss.out hs5 i)
     have hnext : Hid (txtHead ++ (s.take (i + 1)).flatMap wishX = L0 ++ wishX x) := Lib.hid (by
      rw [← hL0.out, List.take_add_one, ex.out]; simp)
     rw [hL0.out] at hV
     have hp6 := hsx.few
     have ho6 := hsx.fewo
     obtain ⟨pa', pc', e, hpn, hpc, hpat⟩ := gp.open
     cases e
     obtain ⟨oa', oc', e, hon, hoc, hoat⟩ := go.open
     cases e
     have hpat' := Lib.hid hpat
     have hoat' := Lib.hid hoat
     clear hpat hoat gp go ex hsx hL0
     go_wp2_with fail
     have hal := Lib.hid ((Ext.refl wr).alloc (.cells #[.int .i64 x.meeting, .slice pa x.people.length pc, .slice oa x.opts.length oc] 52))
     refine (itoa_calls x.meeting hm0 hm1 _ (hTab.out.ext (hE2.out.trans (hx.out.trans hal.out)))).mono ?_
     rintro e w3 ⟨S0, rfl, hS0, hb0, hx3⟩
     have hWb : Blk w3 wr.heap.size 52 #[.int .i64 x.meeting, .slice pa x.people.length pc, .slice oa x.opts.length oc] := (Keep.of_ext (X := fun _ => False) hx3).blk (blk_new' rfl rfl) id
     have u1 : w3.cell? ⟨wr.heap.size, 1, none⟩ = some (.slice pa x.people.length pc) := hWb.cell 1
     have u2 : w3.cell? ⟨wr.heap.size, 2, none⟩ = some (.slice oa x.opts.length oc) := hWb.cell 2
     have ul := hWb.lt
     have hE3 := Lib.hid (hE2.out.trans (hx.out.trans (hal.out.trans hx3)))
     have hr3 := Lib.hid (hal.out.trans hx3)
     have hx23 := Lib.hid (hx.out.trans (hal.out.trans hx3))
     have hV1 : Hid (BS (V ++ ((⟨#[109, 101, 101, 116, 105, 110, 103, 32]⟩ : ByteArray) ++ S0)) (L0 ++ (txtMeeting ++ Lib.itoa x.meeting))) := Lib.hid (hV.out.app ((BS.lit txtMeeting).app hS0))
     obtain ⟨L1, hL1⟩ : ∃ L1, Hid (L0 ++ (txtMeeting ++ Lib.itoa x.meeting) = L1) := ⟨_, rfl⟩
     have hL1b : Hid (L1.length ≤ 40960080) := Lib.hid (by
      have a := hL0b.out
      have b := itoa_len hm0 hm1
      rw [← hL1.out]
      simp [txtMeeting]
      omega)
     rw [hL1.out] at hV1
     have hxr := Lib.hid (hE2.out.trans hx.out)
     have hxr9 := Lib.hid hx.out
     clear g1 g2 g3 hal hx3 hWb hS0 hV hx
     go_wp2_with fail
     go_loopw [5, 39] (fun v5 vj wr2 => ∃ (j : Nat) (V2 : ByteArray), j ≤ x.people.length ∧ v5 = .string V2 ∧ vj = .int .i64 j ∧ Hid (BS V2 (L1 ++ peopleX (x.people.take j))) ∧ Hid (Ext w3 wr2)) (fun _ vj _ => x.people.length - (intOf vj).toNat)
     case atStart => exact ⟨0, _, Nat.zero_le _, rfl, rfl, Lib.hid (by simpa [peopleX] using hV1.out), Lib.hid (Ext.refl _)⟩
     case round =>
      clear hV1 hb0
      rename World => wr2
      obtain ⟨j, V2, hj, rfl, rfl, hV2, hx2⟩ := hrel
      have hV2b : V2.size ≤ 40962080 := by
       have a := hL1b.out
       have b := peopleX_len (l := x.people.take j) (fun p hp => hsx'.out.people p (List.mem_of_mem_take hp)) (by rw [List.length_take]; omega)
       rw [hV2.out.size, List.length_append]
       omega
      by_cases j1 : j < x.people.length
      ·obtain ⟨b2, o2, p, rfl, hb2, _, ep, k0⟩ := hpat'.out j j1 wr2 (hr3.out.trans hx2.out)
       have hp9 := hsx'.out.people p (List.mem_of_getElem? ep.out)
       obtain ⟨hp0, hp1⟩ : -9223372036854775808 ≤ p ∧ p ≤ 9223372036854775807 := hp9
       have hpt : Hid (∀ S1, BS S1 (Lib.itoa p) → BS ((⟨#[32]⟩ : ByteArray) ++ S1) (txtP p)) := Lib.hid fun S1 h => (BS.lit [32]).app h
       have hpk := Lib.hid (peopleX_take ep.out)
       by_cases j0 : j = 0
       ·have dj : ((j : Int) == 0) = true := by simp [j0]
        rw [if_pos j0] at hpk
        clear j0
        go_wp2_with fail
        refine (itoa_calls p hp0 hp1 _ (hTab.out.ext (hE2.out.trans (hx23.out.trans hx2.out)))).mono ?_
        rintro e w5 ⟨S1, rfl, hS1, hb1, hx5⟩
        have hx9 := Lib.hid (hx2.out.trans hx5)
        clear hx5 k0
        have hn9 : Hid (BS (V2 ++ (⟨#[44, 32, 112, 101, 111, 112, 108, 101]⟩ : ByteArray) ++ ((⟨#[32]⟩ : ByteArray) ++ S1)) (L1 ++ peopleX (x.people.take (j + 1)))) := Lib.hid (by
         rw [hpk.out]
         rw [← List.append_assoc, ← List.append_assoc]
         exact (hV2.out.app (BS.lit txtPeople)).app (hpt.out S1 hS1))
        clear hS1 hpk hpt hV2
        go_wp2
        go_roundw
        case rel => first | exact ⟨j + 1, _, j1, rfl, by go_num, hn9, hx9⟩ | ((repeat apply Exists.intro); exact ⟨⟨j + 1, _, j1, rfl, by go_num, hn9, hx9⟩, rfl⟩)
        case measure => simp [intOf]; omega
       ·have dj : ((j : Int) == 0) = false := by rw [beq_eq_false_iff_ne]; omega
        rw [if_neg j0] at hpk
        clear j0
        go_wp2_with fail
        refine (itoa_calls p hp0 hp1 _ (hTab.out.ext (hE2.out.trans (hx23.out.trans hx2.out)))).mono ?_
        rintro e w5 ⟨S1, rfl, hS1, hb1, hx5⟩
        have hx9 := Lib.hid (hx2.out.trans hx5)
        clear hx5 k0
        have hn9 : Hid (BS (V2 ++ ((⟨#[32]⟩ : ByteArray) ++ S1)) (L1 ++ peopleX (x.people.take (j + 1)))) := Lib.hid (by
         rw [hpk.out]
         rw [List.nil_append, ← List.append_assoc]
         exact hV2.out.app (hpt.out S1 hS1))
        clear hS1 hpk hpt hV2
        go_wp2
        go_roundw
        case rel => first | exact ⟨j + 1, _, j1, rfl, by go_num, hn9, hx9⟩ | ((repeat apply Exists.intro); exact ⟨⟨j + 1, _, j1, rfl, by go_num, hn9, hx9⟩, rfl⟩)
        case measure => simp [intOf]; omega
      ·have hV2' : Hid (BS V2 (L1 ++ peopleX x.people)) := Lib.hid (by have := hV2.out; rwa [List.take_of_length_le (by omega)] at this)
       obtain ⟨L2, hL2⟩ : ∃ L2, Hid (L1 ++ peopleX x.people = L2) := ⟨_, rfl⟩
       have hL2b : Hid (L2.length ≤ 40962080) := Lib.hid (by
        have a := hL1b.out
        have b := peopleX_len hsx'.out.people hp6
        rw [← hL2.out, List.length_append]
        omega)
       rw [hL2.out] at hV2'
       have u2' := hx2.out.cell u2
       have ul' : wr.heap.size < wr2.heap.size := Nat.lt_of_lt_of_le ul hx2.out.size
       have hx4 := Lib.hid (hr3.out.trans hx2.out)
       clear hV2 hV2b hx2 u1 u2 ul
       go_wp2_with fail
       rename World => wm
       go_loopw [5, 57] (fun v5 vk wr3 => ∃ (k : Nat) (V3 : ByteArray), k ≤ x.opts.length ∧ v5 = .string V3 ∧ vk = .int .i64 k ∧ Hid (BS V3 (L2 ++ optsX (x.opts.take k))) ∧ Hid (Ext wr wr3)) (fun _ vk _ => x.opts.length - (intOf vk).toNat)
       case atStart => exact ⟨0, _, Nat.zero_le _, rfl, rfl, Lib.hid (by simpa [optsX] using hV2'.out), hx4⟩
       case round =>
        clear hV2'
        rename World => wr3
        obtain ⟨k, V3, hk, rfl, rfl, hV3, hxw⟩ := hrel
        have hV3b : V3.size ≤ 41100000 := by
         have a := hL2b.out
         have b := optsX_len (l := x.opts.take k) (fun o ho => hsx'.out.opts o (List.mem_of_mem_take ho)) (by rw [List.length_take]; omega)
         rw [hV3.out.size, List.length_append]
         omega
        by_cases k1 : k < x.opts.length
        ·obtain ⟨b3, o3, o, sa, sc, rfl, hb3, _, eo, g1, g2, g3, gs⟩ := hoat'.out k k1 wr3 hxw.out
         obtain ⟨p1, p2, ho4⟩ := hsx'.out.opts o (List.mem_of_getElem? eo.out)
         have ho1 := Lib.hid p1
         have ho2 := Lib.hid p2
         have ho3 : o.spans.length ≤ 100000 := by omega
         have hstep := Lib.hid (optsX_take eo.out)
         clear p1 p2 eo
         by_cases k0 : k = 0
         ·have hmin : min (k : Int) 1 = 0 := by omega
          rw [if_pos k0] at hstep
          clear k0
          go_upto_region 18 with (fail)
          obtain ⟨W0, hW0⟩ : ∃ W0, wr3.alloc (.cells #[.int .i64 o.harm, .int .i64 o.room, .slice sa o.spans.length sc] 55) = W0 := ⟨_, rfl⟩
          have hx0 : Hid (Ext wr W0) := Lib.hid (by rw [← hW0]; exact hxw.out.trans ((Ext.refl wr3).alloc _))
          have hbb : Blk W0 wr3.heap.size 55 #[.int .i64 o.harm, .int .i64 o.room, .slice sa o.spans.length sc] := by rw [← hW0]; exact Blk.new _ _ _
          have hsp0 := Lib.hid (gs.ext (show Ext wr3 W0 by rw [← hW0]; exact (Ext.refl wr3).alloc _))
          rw [hW0]
          have q1 := After.cell (show W0.cell? ⟨wr3.heap.size, 0, none⟩ = some (.int .i64 o.harm) from hbb.cell 0)
          have q2 := After.cell (show W0.cell? ⟨wr3.heap.size, 1, none⟩ = some (.int .i64 o.room) from hbb.cell 1)
          have q3 := After.cell (show W0.cell? ⟨wr3.heap.size, 2, none⟩ = some (.slice sa o.spans.length sc) from hbb.cell 2)
          clear hW0 hbb g1 g2 g3 gs hxw
          (refine wp_region_held [] [0, 1, 2, 3, 4, 5, 6, 7, 8, 9, 10] [] (fun k v _ => k = 7 → ∃ S, v = .string S ∧ Hid (BS S (optX o)) ∧ S.size ≤ 4000) (by kernel_rfl) (by kernel_rfl) ?_; simp only [pickL]; with_reducible refine wpQuiet_nil ?_)
          (refine held_quiet [0] [1, 2, 3, 4, 5, 6, 7, 8, 9, 10] (by kernel_rfl) (by kernel_rfl) ?_; simp only [pickL, List.drop]; (repeat (go_big_quiet_step (fail))); with_reducible refine wpQuiet_nil ?_)
          (refine held_made 1 [2, 3, 4, 5, 6, 7, 8, 9, 10] rfl (by kernel_rfl) (fun g => .slice (some ⟨g, 0, none⟩) 2 2) (.cells #[.string ⟨#[58, 32]⟩, .string ⟨#[59, 32, 111, 114, 32]⟩] 9) (fun W => by kernel_rfl) (fun g g2 e => by cases e; rfl) (fun g => rfl) ?_)
          intro gq
          simp only [Act.put, List.setIfInBounds_toArray, List.set_cons_succ, List.set_cons_zero]
          (refine held_quiet [2, 3, 4] [5, 6, 7, 8, 9, 10] (by kernel_rfl) (by kernel_rfl) ?_; simp only [pickL, List.drop]; (repeat (go_big_quiet_step (fail))); with_reducible refine wpQuiet_nil ?_)
          refine held_val heldPost_anti 5 [6, 7, 8, 9, 10] rfl (by kernel_rfl) (.string ⟨#[58, 32]⟩) rfl (fun W hW hD => ?_) ?_
          ·have hb := ((hD 1 (dep_of 12 5 1 (by kernel_rfl))).2 rfl).1
           have hcell : W.cell? ⟨gq, 0, none⟩ = some (.string ⟨#[58, 32]⟩) := by simp [World.cell?, hb]
           simp [execOp, go_sem, hcell]
          simp only [Act.put, List.setIfInBounds_toArray, List.set_cons_succ, List.set_cons_zero]
          (refine held_quiet [6] [7, 8, 9, 10] (by kernel_rfl) (by kernel_rfl) ?_; simp only [pickL, List.drop]; (repeat (go_big_quiet_step (fail))); with_reducible refine wpQuiet_nil ?_)
          (refine held_call 7 [8, 9, 10] rfl (by kernel_rfl) 45 (#[.agg #[.int .i64 o.harm, .int .i64 o.room, .slice sa o.spans.length sc]]) (fun W => by kernel_rfl) rfl ?_ ?_ ?_)
          ·exact fun _ _ _ _ h => h
          ·refine fun W hW _ => (coreOption_calls (.slice sa o.spans.length sc) o W ho1.out (hsp0.out.ext hW) ho2.out ho3 (hTab.out.ext (hxr.out.trans (hx0.out.trans hW)))).mono ?_
           rintro e W' ⟨S9, rfl, h1, h2⟩
           exact ⟨_, rfl, h2, fun _ => ⟨S9, rfl, Lib.hid h1, by rw [h1.size]; exact optX_len ho1.out ho2.out ho4⟩⟩
          rintro v ⟨Y, hY, hCv⟩
          obtain ⟨S9, rfl, hS9, hb9⟩ := hCv rfl
          clear hCv hY Y
          simp only [Act.put, List.setIfInBounds_toArray, List.set_cons_succ, List.set_cons_zero]
          (refine held_quiet [8, 9, 10] [] (by kernel_rfl) (by kernel_rfl) ?_; simp only [pickL, List.drop]; (repeat (go_big_quiet_step (fail))); with_reducible refine wpQuiet_nil ?_)
          intro w9 hx9 hfc htk Q0 hQ0
          simp only [pickL]
          have hE9 := Lib.hid (hx0.out.trans hx9)
          have hn9 : Hid (BS (V3 ++ (⟨#[58, 32]⟩ ++ S9)) (L2 ++ optsX (x.opts.take (k + 1)))) := Lib.hid (by rw [hstep.out, ← List.append_assoc]; exact hV3.out.app ((BS.lit txtColon).app hS9.out))
          clear hfc htk q1 q2 q3 hx9 hx0 hS9
          refine hQ0 _ _ ?_
          clear hQ0 Q0
          go_wp2
          go_roundw
          case rel => first | exact ⟨k + 1, _, k1, rfl, by go_num, hn9, hE9⟩ | ((repeat apply Exists.intro); exact ⟨⟨k + 1, _, k1, rfl, by go_num, hn9, hE9⟩, rfl⟩)
          case measure => simp [intOf]; omega
         ·have hmin : min (k : Int) 1 = 1 := by omega
          rw [if_neg k0] at hstep
          clear k0
          go_upto_region 18 with (fail)
          obtain ⟨W0, hW0⟩ : ∃ W0, wr3.alloc (.cells #[.int .i64 o.harm, .int .i64 o.room, .slice sa o.spans.length sc] 55) = W0 := ⟨_, rfl⟩
          have hx0 : Hid (Ext wr W0) := Lib.hid (by rw [← hW0]; exact hxw.out.trans ((Ext.refl wr3).alloc _))
          have hbb : Blk W0 wr3.heap.size 55 #[.int .i64 o.harm, .int .i64 o.room, .slice sa o.spans.length sc] := by rw [← hW0]; exact Blk.new _ _ _
          have hsp0 := Lib.hid (gs.ext (show Ext wr3 W0 by rw [← hW0]; exact (Ext.refl wr3).alloc _))
          rw [hW0]
          have q1 := After.cell (show W0.cell? ⟨wr3.heap.size, 0, none⟩ = some (.int .i64 o.harm) from hbb.cell 0)
          have q2 := After.cell (show W0.cell? ⟨wr3.heap.size, 1, none⟩ = some (.int .i64 o.room) from hbb.cell 1)
          have q3 := After.cell (show W0.cell? ⟨wr3.heap.size, 2, none⟩ = some (.slice sa o.spans.length sc) from hbb.cell 2)
          clear hW0 hbb g1 g2 g3 gs hxw
          (refine wp_region_held [] [0, 1, 2, 3, 4, 5, 6, 7, 8, 9, 10] [] (fun k v _ => k = 7 → ∃ S, v = .string S ∧ Hid (BS S (optX o)) ∧ S.size ≤ 4000) (by kernel_rfl) (by kernel_rfl) ?_; simp only [pickL]; with_reducible refine wpQuiet_nil ?_)
          (refine held_quiet [0] [1, 2, 3, 4, 5, 6, 7, 8, 9, 10] (by kernel_rfl) (by kernel_rfl) ?_; simp only [pickL, List.drop]; (repeat (go_big_quiet_step (fail))); with_reducible refine wpQuiet_nil ?_)
          (refine held_made 1 [2, 3, 4, 5, 6, 7, 8, 9, 10] rfl (by kernel_rfl) (fun g => .slice (some ⟨g, 0, none⟩) 2 2) (.cells #[.string ⟨#[58, 32]⟩, .string ⟨#[59, 32, 111, 114, 32]⟩] 9) (fun W => by kernel_rfl) (fun g g2 e => by cases e; rfl) (fun g => rfl) ?_)
          intro gq
          simp only [Act.put, List.setIfInBounds_toArray, List.set_cons_succ, List.set_cons_zero]
          (refine held_quiet [2, 3, 4] [5, 6, 7, 8, 9, 10] (by kernel_rfl) (by kernel_rfl) ?_; simp only [pickL, List.drop]; (repeat (go_big_quiet_step (fail))); with_reducible refine wpQuiet_nil ?_)
          refine held_val heldPost_anti 5 [6, 7, 8, 9, 10] rfl (by kernel_rfl) (.string ⟨#[59, 32, 111, 114, 32]⟩) rfl (fun W hW hD => ?_) ?_
          ·have hb := ((hD 1 (dep_of 12 5 1 (by kernel_rfl))).2 rfl).1
           have hcell : W.cell? ⟨gq, 1, none⟩ = some (.string ⟨#[59, 32, 111, 114, 32]⟩) := by simp [World.cell?, hb]
           simp [execOp, go_sem, hcell]
          simp only [Act.put, List.setIfInBounds_toArray, List.set_cons_succ, List.set_cons_zero]
          (refine held_quiet [6] [7, 8, 9, 10] (by kernel_rfl) (by kernel_rfl) ?_; simp only [pickL, List.drop]; (repeat (go_big_quiet_step (fail))); with_reducible refine wpQuiet_nil ?_)
          (refine held_call 7 [8, 9, 10] rfl (by kernel_rfl) 45 (#[.agg #[.int .i64 o.harm, .int .i64 o.room, .slice sa o.spans.length sc]]) (fun W => by kernel_rfl) rfl ?_ ?_ ?_)
          ·exact fun _ _ _ _ h => h
          ·refine fun W hW _ => (coreOption_calls (.slice sa o.spans.length sc) o W ho1.out (hsp0.out.ext hW) ho2.out ho3 (hTab.out.ext (hxr.out.trans (hx0.out.trans hW)))).mono ?_
           rintro e W' ⟨S9, rfl, h1, h2⟩
           exact ⟨_, rfl, h2, fun _ => ⟨S9, rfl, Lib.hid h1, by rw [h1.size]; exact optX_len ho1.out ho2.out ho4⟩⟩
          rintro v ⟨Y, hY, hCv⟩
          obtain ⟨S9, rfl, hS9, hb9⟩ := hCv rfl
          clear hCv hY Y
          simp only [Act.put, List.setIfInBounds_toArray, List.set_cons_succ, List.set_cons_zero]
          (refine held_quiet [8, 9, 10] [] (by kernel_rfl) (by kernel_rfl) ?_; simp only [pickL, List.drop]; (repeat (go_big_quiet_step (fail))); with_reducible refine wpQuiet_nil ?_)
          intro w9 hx9 hfc htk Q0 hQ0
          simp only [pickL]
          have hE9 := Lib.hid (hx0.out.trans hx9)
          have hn9 : Hid (BS (V3 ++ (⟨#[59, 32, 111, 114, 32]⟩ ++ S9)) (L2 ++ optsX (x.opts.take (k + 1)))) := Lib.hid (by rw [hstep.out, ← List.append_assoc]; exact hV3.out.app ((BS.lit txtOr).app hS9.out))
          clear hfc htk q1 q2 q3 hx9 hx0 hS9
          refine hQ0 _ _ ?_
          clear hQ0 Q0
          go_wp2
          go_roundw
          case rel => first | exact ⟨k + 1, _, k1, rfl, by go_num, hn9, hE9⟩ | ((repeat apply Exists.intro); exact ⟨⟨k + 1, _, k1, rfl, by go_num, hn9, hE9⟩, rfl⟩)
          case measure => simp [intOf]; omega
        ·have hfin : Hid (BS (V3 ++ (⟨#[10]⟩ : ByteArray)) (txtHead ++ (s.take (i + 1)).flatMap wishX)) := Lib.hid (by
          have h3 := hV3.out
          rw [List.take_of_length_le (by omega)] at h3
          rw [hnext.out]
          have := h3.app (BS.lit [10])
          rw [← hL2.out, ← hL1.out] at this
          simpa [wishX, List.append_assoc] using this)
         have hx9 := Lib.hid (hxr9.out.trans hxw.out)
         clear hV3
         go_wp2
         go_roundw
         case rel => first | exact ⟨i + 1, _, h1, by go_num, rfl, hfin, hx9⟩ | ((repeat apply Exists.intro); exact ⟨⟨i + 1, _, h1, by go_num, rfl, hfin, hx9⟩, rfl⟩)
         case measure => simp [intOf]; omega
    ·have hfin : Hid (BS V (txtHead ++ s.flatMap wishX)) := Lib.hid (by have := hV.out; rwa [List.take_of_length_le (by omega)] at this)
     clear hV
     go_wp2
     go_ret
     rw [R.out]
     exact ⟨_, rfl, hfin.out, hE2.out.trans hx.out⟩
 ·have d0 : (z != 0) = true := by simp [h0]
  have R : Hid (textT t l = []) := by show _ = _; unfold textT; rw [hz.out, if_neg h0]
  clear hz h0
  go_enter Tryz.func17, Tryz.ntmps17
  go_wp2_with fail
  refine (hck.out _ (by with_reducible repeat' (first | exact Ext.refl _ | assumption | refine Ext.drewN ?_ _ | refine Ext.drew ?_ | refine Ext.alloc ?_ _ | refine Ext.trans ?_ (by with_reducible assumption)))).mono ?_
  rintro e w1 ⟨rfl, hx1⟩
  have hB1 : Hid (Blk w1 w.heap.size 27 #[.slice ta t.length tc]) := Lib.hid ((Keep.of_ext (X := fun _ => False) hx1).blk (blk_new' rfl rfl) id)
  have hE1 := Lib.hid (((Ext.refl w).alloc (.cells #[.slice ta t.length tc] 27)).trans hx1)
  clear hx1 hck
  go_wp2
  go_ret
  rw [R.out]
  exact ⟨_, rfl, BS.lit [], hE1.out⟩
end Go.Proofs.YtjglidlmpjmjeaaGreatDoor
