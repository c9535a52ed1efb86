/- Merged parts: UD, UE. -/
import Derived.Test.YtjglidlmpjmjeaaGreatDoorKX
import Derived.Test.YtjglidlmpjmjeaaGreatDoorHE
import Derived.Deep.Cut
import Derived.Test.YtjglidlmpjmjeaaGreatDoorUA
import Derived.Test.YtjglidlmpjmjeaaGreatDoorPM
/- Walks of the laws' helpers: selection, Numbers, lists, contains, Without. -/
namespace Go.Proofs.YtjglidlmpjmjeaaGreatDoor
open Go.RowKit Go.Shelf List

/-! ### selection -/
theorem peopleTo_up (n : Int) (p : Nat) : (peopleTo n p).length ≤ p := peopleTo_len n p
set_option maxHeartbeats 1600000 in
set_option maxRecDepth 100000 in
theorem selection_calls (wv : Value) (t : List WishD) (n : Int) (w : World) (h : Wishes w wv t) (hn : byteB n) (hfew : t.length ≤ 6) :
  Calls Tryz.prog 14 #[.agg #[wv], .int .u8 n] w fun e w' => ∃ v, e = .returned v ∧ IntsO w' w.heap.size v (peopleTo n t.length) ∧ Ext w w' := by
 obtain ⟨ta, tc, rfl⟩ := h.form
 obtain ⟨j0, hj0, jz0, jz1, jz2⟩ := info_parts int_info
 have hbyte := Lib.hid hn
 clear h hn
 go_enter Tryz.func14, Tryz.ntmps14
 go_wp2_with fail
 refine wp_abs (S := fun W => Hid (Ext w W) ∧ Hid (Blk W w.heap.size 27 #[.slice ta t.length tc]) ∧ Hid (IntsO W w.heap.size (.slice (some ⟨w.heap.size + 1, 0, none⟩) 0 0) [])) ?_ ?_
 ·refine ⟨Lib.hid (by exact (by with_reducible repeat' (first | exact Ext.refl _ | assumption | refine Ext.drewN ?_ _ | refine Ext.drew ?_ | refine Ext.alloc ?_ _ | refine Ext.trans ?_ (by with_reducible assumption)))), Lib.hid (Blk.alloc (blk_new' rfl rfl) _), Lib.hid ?_⟩
  have := World.ownsRow_made (base := w.heap.size) (e := 3) (size := 1) (w.alloc (.cells #[.slice ta t.length tc] 27)) #[] 0 (by rw [World.size_alloc]; omega) (by unfold maxLen; omega) rfl
  rw [World.size_alloc] at this
  exact this
 rintro W1 ⟨hx1, hB1, ho1⟩
 go_loopw [5, 6] (fun vo vi wr => ∃ (i : Nat), i ≤ t.length ∧ vi = .int .i64 i ∧ Hid (Ext w wr) ∧ Hid (Blk wr w.heap.size 27 #[.slice ta t.length tc]) ∧ Hid (IntsO wr w.heap.size vo (peopleTo n i))) (fun _ vi _ => t.length - (intOf vi).toNat)
 case atStart => exact ⟨0, by omega, rfl, hx1, hB1, ho1⟩
 case round =>
  clear hx1 hB1 ho1
  obtain ⟨i, hi, rfl, hxw, hB, hO⟩ := hrel
  have d0 : wr.cell? ⟨w.heap.size, 0, none⟩ = some (.slice ta t.length tc) := hB.out.cell 0
  have l0 := hB.out.lt
  have hlen := peopleTo_len n i
  by_cases h1 : i < t.length
  ·cases hb : bitB n i with
   | false =>
    have htest := (bit_walk hbyte.out.1 i).trans hb
    have hN : Hid (IntsO wr w.heap.size _ (peopleTo n (i + 1))) := Lib.hid (by rw [peopleTo_step, hb]; exact hO.out)
    clear hb hO
    go_wp2_with fail
    go_roundw
    case rel => exact ⟨i + 1, by omega, by go_num, hxw, hB, hN⟩
    case measure => simp [intOf]; omega
   | true =>
    have htest := (bit_walk hbyte.out.1 i).trans hb
    have hrow := hO.out
    unfold IntsO at hrow
    obtain ⟨m, hm⟩ : ∃ m, Hid ((peopleTo n i).length = m) := ⟨_, rfl⟩
    rw [hm.out] at hrow hlen
    obtain ⟨A, C, rfl⟩ := owns_form hrow
    have hrow' := Lib.hid hrow
    have hb' := Lib.hid hb
    have lw := hxw.out.size
    clear hb hrow
    go_wp2_with (at_builtin; refine wpList_append_any _ rfl (.tmp 20) (.tmp 22) _ rfl w.heap.size 3 j0 _ 1 8 Tryz.underlying23 hj0 jz0 jz1 jz2 rfl (by decide) (.slice A m C) m _ rfl (hrow'.out.alloc _) (wr.heap.size + 1) (some ⟨wr.heap.size, 0, none⟩) 1 1 [.int .i64 (i : Int)] rfl (reads_last _ #[_] _ 1 1 _ _ (by simp) (by omega) rfl) (one_int _) (by unfold maxLen; omega) (by omega) (by rw [World.size_alloc]; omega) ?_; intro v1 w1 hown1 hg1 hat1; have hN : Hid (IntsO w1 w.heap.size v1 (peopleTo n (i + 1))) := Lib.hid (by rw [peopleTo_step, hb'.out]; exact IntsO.push hO.out hm.out.symm hown1); have hE := Lib.hid (Ext.push hxw.out hrow'.out _ hg1); have hB2 := Lib.hid ((Blk.alloc hB.out _).grown hg1 (Ne.symm (own_blk_ne hrow'.out hB.out (by decide)))); clear hg1 hat1 hown1)
    go_roundw
    case rel => exact ⟨i + 1, by omega, by go_num, hE, hB2, hN⟩
    case measure => simp [intOf]; omega
  ·obtain rfl : i = t.length := by omega
   go_wp2
   go_ret
   exact ⟨_, rfl, hO.out, hxw.out⟩

/-! ### Numbers -/
theorem beq_drop34 {a b : List Int} {i : Nat} {x y : Int} (hx : a[i]? = some x) (hy : b[i]? = some y) (h : a.take i = b.take i) : (a.take (i + 1) = b.take (i + 1)) ↔ x = y := by
 rw [List.take_add_one, List.take_add_one, h, hx, hy]
 simp
set_option maxHeartbeats 800000 in
theorem rNumbers34_calls (va vb : Value) (a b : List Int) (w : World) (ha : Ints w va a) (hb : Ints w vb b) :
  Calls Tryz.prog 15 #[va, vb] w fun e w' => e = .returned (.bool (decide (a = b))) ∧ Ext w w' := by
 obtain ⟨aa, ac, rfl, han, hac, aat⟩ := ha.open
 obtain ⟨ba, bc, rfl, hbn, hbc, bat⟩ := hb.open
 have aat' := Lib.hid aat
 have bat' := Lib.hid bat
 clear ha hb aat bat
 by_cases hl : a.length = b.length
 ·have d0 : ((a.length : Int) != b.length) = false := by simp [hl]
  have hl' := Lib.hid hl
  have l1 : a.length ≤ b.length := Nat.le_of_eq hl
  have l2 : b.length ≤ a.length := Nat.le_of_eq hl.symm
  clear hl
  go_enter Tryz.func15, Tryz.ntmps15
  go_wp2_with fail
  go_loopw [5] (fun vi wr => ∃ i : Nat, i ≤ a.length ∧ vi = .int .i64 i ∧ Hid (Ext w wr) ∧ Hid (a.take i = b.take i)) (fun vi _ => a.length - (intOf vi).toNat)
  case atStart => exact ⟨0, by omega, rfl, Lib.hid (Ext.refl _), Lib.hid (by simp)⟩
  case round =>
   obtain ⟨i, hi, rfl, hx, hF⟩ := hrel
   by_cases h1 : i < a.length
   ·obtain ⟨b1, o1, x, rfl, hb1, _, ex, g0⟩ := aat'.out i h1 wr hx.out
    obtain ⟨b2, o2, y, rfl, hb2, _, ey, g1⟩ := bat'.out i (by omega) wr hx.out
    have hstep := Lib.hid (beq_drop34 ex.out ey.out hF.out)
    clear ex ey
    by_cases hxy : x = y
    ·have d1 : (x != y) = false := by simp [hxy]
     have R : Hid (a.take (i + 1) = b.take (i + 1)) := hstep.out.2 hxy
     clear hxy hstep
     go_upto_region 6 with (fail)
     have z1 := After.cell g0
     have z2 := After.cell g1
     clear g0 g1
     refine wp_region_after (by kernel_rfl) (by kernel_rfl) ?_
     repeat (go_big_quiet_step (fail))
     refine wpQuiet_nil ?_
     rintro _ ⟨u, rfl⟩
     have hu := Lib.hid (hx.out.trans u.ext)
     generalize u.world = W at hu ⊢
     clear z1 z2
     go_wp2
     go_roundw
     case rel => exact ⟨i + 1, by omega, by go_num, hu, R⟩
     case measure => simp [intOf]; omega
    ·have d1 : (x != y) = true := by simp [hxy]
     have R : Hid (decide (a = b) = false) := decide_eq_false (fun e => hxy (hstep.out.1 (by rw [e])))
     clear hxy hstep
     go_upto_region 6 with (fail)
     have z1 := After.cell g0
     have z2 := After.cell g1
     clear g0 g1
     refine wp_region_after (by kernel_rfl) (by kernel_rfl) ?_
     repeat (go_big_quiet_step (fail))
     refine wpQuiet_nil ?_
     rintro _ ⟨u, rfl⟩
     have hu := Lib.hid (hx.out.trans u.ext)
     generalize u.world = W at hu ⊢
     clear z1 z2
     go_wp2
     go_ret
     rw [R.out]
     exact ⟨rfl, hu.out⟩
   ·have R : Hid (decide (a = b) = true) := decide_eq_true (by
     have := hF.out
     rwa [List.take_of_length_le (by omega), List.take_of_length_le (by omega)] at this)
    go_wp2
    go_ret
    rw [R.out]
    exact ⟨rfl, hx.out⟩
 ·have d0 : ((a.length : Int) != b.length) = true := by simp; omega
  have R : Hid (decide (a = b) = false) := decide_eq_false (fun e => hl (by rw [e]))
  clear hl
  go_enter Tryz.func15, Tryz.ntmps15
  go_wp2
  go_ret
  rw [R.out]
  exact ⟨rfl, Ext.refl _⟩

/-! ### contains -/
theorem cut_take {s : List Int} {i : Nat} {x : Int} (h : s[i]? = some x) : s.drop i = x :: s.drop (i + 1) := by
 obtain ⟨hi, rfl⟩ := List.getElem?_eq_some_iff.1 h
 exact List.drop_eq_getElem_cons hi
theorem cons_ne {x y : Int} {s p : List Int} (h : y ≠ x) : y :: p <+ x :: s ↔ y :: p <+ s := by
 constructor
 ·intro h'
  cases h' with
  | cons _ h' => exact h'
  | cons_cons _ h' => exact absurd rfl h
 ·exact fun h' => h'.cons _
/-! ### lists -/
set_option maxHeartbeats 800000 in
theorem lists34_calls (va vb : Value) (a b : List (List Int)) (w : World) (ha : RowsI w va a) (hb : RowsI w vb b) :
  Calls Tryz.prog 16 #[va, vb] w fun e w' => e = .returned (.bool (decide (a = b))) ∧ Ext w w' := by
 obtain ⟨aa, ac, rfl, han, hac, aat⟩ := ha.open
 obtain ⟨ba, bc, rfl, hbn, hbc, bat⟩ := hb.open
 have aat' := Lib.hid aat
 have bat' := Lib.hid bat
 clear ha hb aat bat
 by_cases hl : a.length = b.length
 ·have d0 : ((a.length : Int) != b.length) = false := by simp [hl]
  have hl' := Lib.hid hl
  have l1 : a.length ≤ b.length := Nat.le_of_eq hl
  have l2 : b.length ≤ a.length := Nat.le_of_eq hl.symm
  clear hl
  go_enter Tryz.func16, Tryz.ntmps16
  go_wp2_with fail
  go_loopw [5] (fun vi wr => ∃ i : Nat, i ≤ a.length ∧ vi = .int .i64 i ∧ Hid (Ext w wr) ∧ Hid (a.take i = b.take i)) (fun vi _ => a.length - (intOf vi).toNat)
  case atStart => exact ⟨0, by omega, rfl, Lib.hid (Ext.refl _), Lib.hid (by simp)⟩
  case round =>
   obtain ⟨i, hi, rfl, hx, hF⟩ := hrel
   by_cases h1 : i < a.length
   ·obtain ⟨b1, o1, x, xa, xc, rfl, hb1, ex, g0, gx⟩ := aat'.out i h1 wr hx.out
    obtain ⟨b2, o2, y, ya, yc, rfl, hb2, ey, g1, gy⟩ := bat'.out i (by omega) wr hx.out
    have hstep : Hid ((a.take (i + 1) = b.take (i + 1)) ↔ x = y) := Lib.hid (by rw [List.take_add_one, List.take_add_one, hF.out, ex.out, ey.out]; simp)
    have hcl : Hid (∀ W, Ext wr W → Calls Tryz.prog 15 #[.slice xa x.length xc, .slice ya y.length yc] W fun e w' => e = .returned (.bool (decide (x = y))) ∧ Ext W w') := Lib.hid fun W hW => rNumbers34_calls _ _ x y W (gx.ext hW) (gy.ext hW)
    clear ex ey gx gy
    by_cases hxy : x = y
    ·have R : Hid (a.take (i + 1) = b.take (i + 1)) := hstep.out.2 hxy
     have d1 := Lib.hid (decide_eq_true hxy)
     clear hxy hstep
     rw [d1.out] at hcl
     go_upto_region 6 with (fail)
     have z1 := After.cell g0
     have z2 := After.cell g1
     clear g0 g1
     refine wp_region_after (by kernel_rfl) (by kernel_rfl) ?_
     repeat (go_big_quiet_step (exact After.call _ (hcl.out _ (After.ext _))))
     refine wpQuiet_nil ?_
     rintro _ ⟨u, rfl⟩
     have hu := Lib.hid (hx.out.trans u.ext)
     generalize u.world = W at hu ⊢
     clear z1 z2 hcl
     go_wp2
     go_roundw
     case rel => exact ⟨i + 1, by omega, by go_num, hu, R⟩
     case measure => simp [intOf]; omega
    ·have d1 := Lib.hid (decide_eq_false hxy)
     have R : Hid (decide (a = b) = false) := decide_eq_false (fun e => hxy (hstep.out.1 (by rw [e])))
     clear hxy hstep
     rw [d1.out] at hcl
     go_upto_region 6 with (fail)
     have z1 := After.cell g0
     have z2 := After.cell g1
     clear g0 g1
     refine wp_region_after (by kernel_rfl) (by kernel_rfl) ?_
     repeat (go_big_quiet_step (exact After.call _ (hcl.out _ (After.ext _))))
     refine wpQuiet_nil ?_
     rintro _ ⟨u, rfl⟩
     have hu := Lib.hid (hx.out.trans u.ext)
     generalize u.world = W at hu ⊢
     clear z1 z2 hcl
     go_wp2
     go_ret
     rw [R.out]
     exact ⟨rfl, hu.out⟩
   ·have R : Hid (decide (a = b) = true) := decide_eq_true (by
     have := hF.out
     rwa [List.take_of_length_le (by omega), List.take_of_length_le (by omega)] at this)
    go_wp2
    go_ret
    rw [R.out]
    exact ⟨rfl, hx.out⟩
 ·have d0 : ((a.length : Int) != b.length) = true := by simp; omega
  have R : Hid (decide (a = b) = false) := decide_eq_false (fun e => hl (by rw [e]))
  clear hl
  go_enter Tryz.func16, Tryz.ntmps16
  go_wp2
  go_ret
  rw [R.out]
  exact ⟨rfl, Ext.refl _⟩
end Go.Proofs.YtjglidlmpjmjeaaGreatDoor

/- Walk of the reference of cores: Made. -/
namespace Go.Proofs.YtjglidlmpjmjeaaGreatDoor
open Go.RowKit

theorem run_field_task34 (a : Option Addr) (n c : Nat) (w : World) : (Instr.field 27 (.agg #[.slice a n c]) 0).run Tryz.prog w = .ok (.slice a n c) w := by kernel_rfl
attribute [local go_sem] run_field_task34
structure Made34At (w W : World) (l : List RawD) (i : Nat) (v : Value) (acc : List WishD) : Prop where
 ext : Ext w W
 res : Blk W w.heap.size 27 #[.slice none 0 0]
 task : Blk W (w.heap.size + 1) 27 #[v]
 own : WishesO W w.heap.size v acc
 len : acc.length = i
 go : acc ++ made34From i (l.drop i) = made34From 0 l
theorem Made34At.wish {w w0 W w1 : World} {l : List RawD} {i : Nat} {v : Value} {acc : List WishD} {x : RawD} {pv ov v1 : Value} {n : Nat} {xs : List Value}
  (hM : Made34At w w0 l i v acc) (hx : l.drop i = x :: l.drop (i + 1)) (hi : i < 6) (e : Ext w0 W) (hp : IntsO W w.heap.size pv (wish34 i x).people) (ho : OptsO W w.heap.size ov (wish34 i x).opts)
  (hn : n = acc.length) (hxs : WishesCO w0 w.heap.size acc xs) (hrow : w0.ownsRow w.heap.size 52 3 v n xs)
  (hown : w1.ownsRow w.heap.size 52 3 v1 (n + 1) (xs ++ [.int .i64 (10 + (i : Int)), pv, ov])) (hg : W.grownBy w1 v.ownBlock) :
  Made34At w (w1.setCell ⟨w.heap.size + 1, 0, none⟩ v1) l (i + 1) v1 (acc ++ [wish34 i x]) := by
 have k0 : Keep (fun _ => False) w0 W := Keep.of_ext e
 have hrow1 := owns_ext hrow e
 have t1 := TX.row hrow1
 have k1 : Keep (fun g => v.ownBlock = some g) W w1 := (Keep.refl _ W).grown hg (fun g e => Or.inl e)
 have b0 := (k0.blk hM.res id).grown hg (Ne.symm (own_blk_ne hrow hM.res (by decide)))
 have b1 := (k0.blk hM.task id).grown hg (Ne.symm (own_blk_ne hrow hM.task (by decide)))
 have k2 : Keep (fun g => g = w.heap.size + 1) w1 (w1.setCell ⟨w.heap.size + 1, 0, none⟩ v1) := keep_set _ _ _ _
 have t2 := TX.one b1
 refine ⟨?_, b0.far (by dsimp only; omega) _, b1.set_ 0 v1, ?_, by rw [List.length_append, hM.len]; rfl, ?_⟩
 ·refine ((hM.ext.trans e).keep k1 fun j hj hx => ?_).keep k2 fun j hj hx => ?_
  ·have := (World.ownsRow.lt hrow1 j hx).1; omega
  ·omega
 ·have c1 := WishesCO.snoc (x := wish34 i x) ⟨(hp.keepT k1 t1 (by decide)).keepT k2 t2 (by decide), (ho.keepT k1 t1 (by decide) (by decide)).keepT k2 t2 (by decide) (by decide)⟩
   (WishesCO.keepT k2 t2 (by decide) (by decide) (by decide) (WishesCO.keepT k1 t1 (by decide) (by decide) (by decide) (WishesCO.ext e hxs)))
  refine ⟨_, ?_, c1⟩
  have := owns_keepT hown k2 t2 (by decide)
  rw [List.length_append, ← hn]
  exact this
 ·have := hM.go
  rw [hx, made34From_step hi] at this
  rw [← this]
  simp
theorem raws_one {W : World} {b o c : Nat} {x : RawD} {sv : Value} (hb : b < W.heap.size) (g0 : W.cell? ⟨b, o, none⟩ = some (.int .u8 x.people)) (g1 : W.cell? ⟨b, o + 1, none⟩ = some sv) (go : Octs W sv x.opts) (hby : byteB x.people) (h1 : 1 ≤ c) (hc : c ≤ maxLen) :
  Raws W (.slice (some ⟨b, o, none⟩) 1 c) [x] := by
 refine ⟨fun _ => sv, ⟨_, c, rfl, h1, hc, fun _ => ⟨b, o, rfl, hb, fun i hi j hj => ?_⟩⟩, fun i hi => ?_⟩
 ·simp at hi
  subst hi
  rcases j with _ | _ | j
  ·simpa using g0
  ·simpa using g1
  ·omega
 ·simp at hi
  subst hi
  exact ⟨go, hby⟩
theorem raws_nil (W : World) : Raws W (.slice none 0 0) [] := ⟨fun _ => undef, ⟨none, 0, rfl, Nat.le_refl _, by unfold maxLen; omega, fun h => by simp at h⟩, fun i hi => by simp at hi⟩
theorem madeT_one (x : RawD) : madeT [x] = [wishT 0 x] := rfl
theorem wishO_one {W : World} {B : Nat} {v : Value} {y : WishD} (h : WishesO W B v [y]) : ∃ g o c pv ov, v = .slice (some ⟨g, o, none⟩) 1 c ∧ g < W.heap.size ∧ IntsO W B pv y.people ∧ OptsO W B ov y.opts ∧
  W.cell? ⟨g, o, none⟩ = some (.int .i64 y.meeting) ∧ W.cell? ⟨g, o + 1, none⟩ = some pv ∧ W.cell? ⟨g, o + 2, none⟩ = some ov := by
 obtain ⟨xs, hrow, pv, ov, ys, rfl, ⟨hp, ho⟩, rfl⟩ := h
 have hs := sl_of_owns (k := 3) (n := 1) (F := fun _ j => if j = 0 then .int .i64 y.meeting else if j = 1 then pv else ov) hrow (fun i hi j hj => by
  obtain rfl : i = 0 := by omega
  rcases j with _ | _ | _ | j
  ·rfl
  ·rfl
  ·rfl
  ·omega)
 obtain ⟨a, c, rfl, _, _, hcell⟩ := hs
 obtain ⟨b, off, rfl, hb, hc⟩ := hcell (by omega)
 exact ⟨b, off, c, pv, ov, rfl, hb, hp, ho, by simpa using hc 0 (by omega) 0 (by omega), by simpa using hc 0 (by omega) 1 (by omega), by simpa using hc 0 (by omega) 2 (by omega)⟩
set_option maxHeartbeats 3200000 in
set_option maxRecDepth 100000 in
theorem made34_calls (rv : Value) (l : List RawD) (w : World) (h : Raws w rv l) :
  Calls Tryz.prog 7 #[rv] w fun e w' => ∃ tv, e = .returned (.agg #[tv]) ∧ WishesO w' w.heap.size tv (made34 l) ∧ Ext w w' := by
 obtain ⟨ra, rc, rfl, hn, hc, hat⟩ := h.open
 obtain ⟨m0, hm0, mz0, mz1, mz2⟩ := info_parts wish_info
 have hat' := Lib.hid hat
 clear h hat
 go_enter Tryz.func7, Tryz.ntmps7
 go_wp2_with fail
 go_loopw [4] (fun vi wr => ∃ (i : Nat) (v : Value) (acc : List WishD), i ≤ 6 ∧ i ≤ l.length ∧ vi = .int .i64 i ∧ Hid (Made34At w wr l i v acc)) (fun vi _ => 6 - (intOf vi).toNat)
 case atStart =>
  refine ⟨0, .slice none 0 0, [], by omega, by omega, rfl, Lib.hid ⟨by exact (by with_reducible repeat' (first | exact Ext.refl _ | assumption | refine Ext.drewN ?_ _ | refine Ext.drew ?_ | refine Ext.alloc ?_ _ | refine Ext.trans ?_ (by with_reducible assumption))), ?_, ?_, WishesO.nil _ _, rfl, by simp⟩⟩
  ·exact (blk_new' rfl rfl).alloc _
  ·exact blk_new' (by simp only [World.size_alloc]) rfl
 case round =>
  obtain ⟨i, v, acc, hi4, hil, rfl, hM⟩ := hrel
  by_cases h1 : i < l.length
  ·by_cases h2 : i < 6
   ·obtain ⟨b1, o1, x, sa, sc, rfl, hb1, dx, ex, hbyte, g0, g1, go⟩ := hat'.out i h1 wr hM.out.ext
    have go' := Lib.hid go
    clear go
    have hd4 : decide ((i : Int) < 6) = true := by simp; omega
    have hr1 : Hid (∀ W, Ext wr W → Raws W (.slice (some ⟨b1, o1 + i * 2, none⟩) 1 (rc - i)) [x]) := Lib.hid fun W hW => raws_one (Nat.lt_of_lt_of_le hb1 hW.size) (hW.cell g0) (hW.cell g1) (go'.out.ext hW) hbyte.out (by omega) (by unfold maxLen; omega)
    go_wp2_with fail
    refine (made_calls _ [x] wr (hr1.out wr (Ext.refl _))).mono ?_
    rintro e w4 ⟨tv, rfl, htv, hx4⟩
    rw [madeT_one] at htv
    obtain ⟨tg, to', tc, pv, ov, rfl, htg, hp, ho, c0, c1, c2⟩ := wishO_one htv
    obtain ⟨pA, pC, rfl⟩ := owns_form hp
    obtain ⟨oA, oC, rfl⟩ := owns_form (Classical.choose_spec ho).1
    have lw := hM.out.ext.size
    have hp4 := Lib.hid (hp.base lw)
    have ho4 := Lib.hid (ho.base lw)
    have hx4' := Lib.hid hx4
    obtain ⟨pn, hpn⟩ : ∃ n, Hid ((wishT 0 x).people.length = n) := ⟨_, rfl⟩
    obtain ⟨on, hon⟩ : ∃ n, Hid ((wishT 0 x).opts.length = n) := ⟨_, rfl⟩
    rw [hpn.out] at c1 hp4
    rw [hon.out] at c2 ho4
    have w10 : (wishT 0 x).meeting = 10 := rfl
    rw [w10] at c0
    clear htv hp ho hx4 hr1 g0 g1 go' hbyte w10
    go_upto_region 7 with (fail)
    refine wp_abs (S := fun W => Hid (Ext w4 W) ∧ Hid (Blk W w4.heap.size 52 #[.int .i64 (10 + (i : Int)), .slice pA pn pC, .slice oA on oC])) ?_ ?_
    ·exact ⟨Lib.hid ((Ext.refl w4).alloc _), Lib.hid (blk_new' rfl rfl)⟩
    rintro W5 ⟨hx5, hv5⟩
    obtain ⟨xs, hrow, hxs⟩ := hM.out.own
    rw [hM.out.len] at hrow
    obtain ⟨vA, vC, rfl⟩ := owns_form hrow
    have hrow' := Lib.hid hrow
    have hxs' := Lib.hid hxs
    have hE0 := Lib.hid (hx4'.out.trans hx5.out)
    have u0 : W5.cell? ⟨w4.heap.size, 0, none⟩ = some (.int .i64 (10 + (i : Int))) := hv5.out.cell 0
    have u1 : W5.cell? ⟨w4.heap.size, 1, none⟩ = some (.slice pA pn pC) := hv5.out.cell 1
    have u2 : W5.cell? ⟨w4.heap.size, 2, none⟩ = some (.slice oA on oC) := hv5.out.cell 2
    have t0' : W5.cell? ⟨w.heap.size + 1, 0, none⟩ = some (.slice vA i vC) := hE0.out.cell (hM.out.task.cell 0)
    have lw5 := hE0.out.size
    have hp5 := Lib.hid (hp4.out.ext hx5.out)
    have ho5 := Lib.hid (ho4.out.ext hx5.out)
    clear hrow hxs c0 c1 c2 hv5 hp4 ho4 htg
    go_wp2_with (at_builtin; refine wpList_append_any _ rfl (.tmp 30) (.tmp 32) _ rfl w.heap.size 52 m0 _ 3 56 Tryz.underlying25 hm0 mz0 mz1 mz2 rfl (by decide) (.slice vA i vC) i xs rfl ((owns_ext hrow'.out hE0.out).alloc _) (W5.heap.size + 1) (some ⟨W5.heap.size, 0, none⟩) 1 1 [.int .i64 (10 + (i : Int)), .slice pA pn pC, .slice oA on oC] rfl (reads_last _ #[_, _, _] _ 3 1 _ _ (by simp) (by omega) rfl) (by simp [Value.oneCell']) (by unfold maxLen; omega) (by omega) (by rw [World.size_alloc]; omega) ?_; intro v1 w1 hown1 hg1 hat1; obtain ⟨A1, C1, rfl⟩ := owns_form hown1; have hE := hE0.out.alloc (.cells #[.int .i64 (10 + (i : Int)), .slice pA pn pC, .slice oA on oC] 52); have hE1 := (Ext.refl W5).alloc (.cells #[.int .i64 (10 + (i : Int)), .slice pA pn pC, .slice oA on oC] 52); have hN := Lib.hid (hM.out.wish dx.out h2 hE (hp5.out.ext hE1) (ho5.out.ext hE1) hM.out.len.symm hxs'.out hrow'.out hown1 hg1); have hb1 := (Blk.alloc ((Keep.of_ext (X := fun _ => False) hE0.out).blk hM.out.task id) (.cells #[.int .i64 (10 + (i : Int)), .slice pA pn pC, .slice oA on oC] 52)).grown hg1 (Ne.symm (own_blk_ne hrow'.out hM.out.task (by decide))); have c1' : w1.cell? ⟨w.heap.size + 1, 0, none⟩ = some (.slice vA i vC) := hb1.cell 0; have f1' := hb1.frozen 0; have lt1' := hb1.lt; clear hg1 hat1 hown1 hE hE1 hb1)
    go_roundw
    case rel => exact ⟨i + 1, _, _, by omega, by omega, by go_num, hN⟩
    case measure => simp [intOf]; omega
   ·have hd4 : decide ((i : Int) < 6) = false := by simp; omega
    have hT : Hid (acc = made34 l) := by
     show _ = _
     have := hM.out.go
     rw [made34From_stop h2, List.append_nil] at this
     rw [this, made34, if_neg (by omega)]
    have hz : ((i : Int) == 0) = false := by simp; omega
    obtain ⟨vA, vC, rfl⟩ := owns_form (Classical.choose_spec hM.out.own).1
    have hres := hM.out.res
    have htask := hM.out.task
    rw [hM.out.len] at htask
    have t0 : wr.cell? ⟨w.heap.size + 1, 0, none⟩ = some (.slice vA i vC) := htask.cell 0
    have r0 : wr.cell? ⟨w.heap.size, 0, none⟩ = some (.slice none 0 0) := hres.cell 0
    have f0 := hres.frozen 0
    have lt0 := hres.lt
    have lt1 := htask.lt
    have hres' := Lib.hid hres
    clear hres htask
    go_wp2
    have k2 : Keep (fun g => g = w.heap.size) wr (wr.setCell ⟨w.heap.size, 0, none⟩ (.slice vA i vC)) := keep_set _ _ _ _
    have b2 := hres'.out.set_ 0 (.slice vA i vC)
    have v0 : (wr.setCell ⟨w.heap.size, 0, none⟩ (.slice vA i vC)).cell? ⟨w.heap.size, 0, none⟩ = some (.slice vA i vC) := b2.cell 0
    refine bodyPost_ret (v := .agg #[.slice vA i vC]) (by simp [results, Tryz.results7, go_sem, v0]) rfl ⟨_, rfl, ?_, hM.out.ext.keep k2 (by intro j hj h; omega)⟩
    rw [← hT.out, ← hM.out.len]
    have := hM.out.own
    rw [hM.out.len] at this
    rw [hM.out.len]
    exact this.keepT k2 (TX.one hres'.out) (by decide) (by decide) (by decide) (by decide)
  ·by_cases h0 : l.length = 0
   ·have hT : Hid (made34 l = madeT []) := by show _ = _; rw [made34, if_pos h0]
    have hz : ((i : Int) == 0) = true := by simp; omega
    obtain ⟨vA, vC, rfl⟩ := owns_form (Classical.choose_spec hM.out.own).1
    have hres := hM.out.res
    have htask := hM.out.task
    rw [hM.out.len] at htask
    have t0 : wr.cell? ⟨w.heap.size + 1, 0, none⟩ = some (.slice vA i vC) := htask.cell 0
    have lt1 := htask.lt
    have hres' := Lib.hid hres
    have hx' := Lib.hid hM.out.ext
    clear hres htask hM
    go_wp2_with fail
    refine (made_calls _ [] wr (raws_nil wr)).mono ?_
    rintro e w4 ⟨tv, rfl, htv, hx4⟩
    obtain ⟨tA, tC, rfl⟩ := owns_form (Classical.choose_spec htv).1
    have b4 := (Keep.of_ext (X := fun _ => False) hx4).blk hres'.out id
    have r0 : w4.cell? ⟨w.heap.size, 0, none⟩ = some (.slice none 0 0) := b4.cell 0
    have f0 := b4.frozen 0
    have lt0 := b4.lt
    have b4' := Lib.hid b4
    have hsz := hx'.out.size
    have hown := Lib.hid (htv.base hsz)
    have hx5 := Lib.hid (hx'.out.trans hx4)
    clear htv hx4 b4
    go_wp2
    have k2 : Keep (fun g => g = w.heap.size) w4 (w4.setCell ⟨w.heap.size, 0, none⟩ (.slice tA (madeT []).length tC)) := keep_set _ _ _ _
    have b2 := b4'.out.set_ 0 (.slice tA (madeT []).length tC)
    have v0 : (w4.setCell ⟨w.heap.size, 0, none⟩ (.slice tA (madeT []).length tC)).cell? ⟨w.heap.size, 0, none⟩ = some (.slice tA (madeT []).length tC) := b2.cell 0
    refine bodyPost_ret (v := .agg #[.slice tA (madeT []).length tC]) (by simp [results, Tryz.results7, go_sem, v0]) rfl ⟨_, rfl, ?_, hx5.out.keep k2 (by intro j hj h; omega)⟩
    rw [hT.out]
    exact hown.out.keepT k2 (TX.one b4'.out) (by decide) (by decide) (by decide) (by decide)
   ·
    have hT : Hid (acc = made34 l) := by
     show _ = _
     have := hM.out.go
     rw [List.drop_of_length_le (by omega), made34From, List.append_nil] at this
     rw [this, made34, if_neg (by omega)]
    have hz : ((i : Int) == 0) = false := by simp; omega
    obtain ⟨vA, vC, rfl⟩ := owns_form (Classical.choose_spec hM.out.own).1
    have hres := hM.out.res
    have htask := hM.out.task
    rw [hM.out.len] at htask
    have t0 : wr.cell? ⟨w.heap.size + 1, 0, none⟩ = some (.slice vA i vC) := htask.cell 0
    have r0 : wr.cell? ⟨w.heap.size, 0, none⟩ = some (.slice none 0 0) := hres.cell 0
    have f0 := hres.frozen 0
    have lt0 := hres.lt
    have lt1 := htask.lt
    have hres' := Lib.hid hres
    clear hres htask
    go_wp2
    have k2 : Keep (fun g => g = w.heap.size) wr (wr.setCell ⟨w.heap.size, 0, none⟩ (.slice vA i vC)) := keep_set _ _ _ _
    have b2 := hres'.out.set_ 0 (.slice vA i vC)
    have v0 : (wr.setCell ⟨w.heap.size, 0, none⟩ (.slice vA i vC)).cell? ⟨w.heap.size, 0, none⟩ = some (.slice vA i vC) := b2.cell 0
    refine bodyPost_ret (v := .agg #[.slice vA i vC]) (by simp [results, Tryz.results7, go_sem, v0]) rfl ⟨_, rfl, ?_, hM.out.ext.keep k2 (by intro j hj h; omega)⟩
    rw [← hT.out, ← hM.out.len]
    have := hM.out.own
    rw [hM.out.len] at this
    rw [hM.out.len]
    exact this.keepT k2 (TX.one hres'.out) (by decide) (by decide) (by decide) (by decide)
end Go.Proofs.YtjglidlmpjmjeaaGreatDoor
