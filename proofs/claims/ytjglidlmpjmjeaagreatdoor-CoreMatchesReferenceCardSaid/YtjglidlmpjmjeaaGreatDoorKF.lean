/- Walk of package core: Check. -/
import Derived.Test.YtjglidlmpjmjeaaGreatDoorKE
import Derived.Test.YtjglidlmpjmjeaaGreatDoorPI
namespace Go.Proofs.YtjglidlmpjmjeaaGreatDoor
open Go.RowKit

/-! ### Check -/
def lackI (t : List WishD) (l : List Int) : List Nat → Int
 | [] => 0
 | i :: r => if (standsT t (l.eraseIdx i)).2 ≠ 0 then (standsT t (l.eraseIdx i)).2 else if (standsT t (l.eraseIdx i)).1 then lackI t l r else 11
def coreCheckT (t : List WishD) (l : List Int) (c : List NodeD) : Int :=
 if checkI t l = 0 then (if l.length = 0 then 1 else if checkT (subT t l) 1000000000 c = 0 then lackI t l (List.range l.length) else checkT (subT t l) 1000000000 c) else checkI t l
theorem range_drop {n i : Nat} (h : i < n) : (List.range n).drop i = i :: (List.range n).drop (i + 1) := by
 rw [List.drop_eq_getElem_cons (by simpa using h)]
 simp
def CkCon (L : List Int) (q : Bool) (e : Int) (k : Nat) (v : Value) (W : World) : Prop := (k = 3 → Ints W v L) ∧ (k = 4 → v = .tuple #[.bool q, .int .i64 e])
set_option maxHeartbeats 3200000 in
set_option maxRecDepth 100000 in
theorem coreCheck_calls (wv lv cv : Value) (t : List WishD) (l : List Int) (c : List NodeD) (w : World) (h : Wishes w wv t) (hl : Ints w lv l) (hc : Nodes w cv c) (hk : ∀ n ∈ c, n.kids.length ≤ 17592186044416) :
  Calls Tryz.prog 22 #[.agg #[wv], lv, cv] w fun e w' => e = .returned (.int .i64 (coreCheckT t l c)) ∧ Ext w w' := by
 have hT := Lib.hid h
 have hL := Lib.hid hl
 have hN := Lib.hid hc
 have hkk := Lib.hid hk
 obtain ⟨ta, tc, rfl⟩ := h.form
 obtain ⟨la, lc, rfl⟩ := hl.form
 obtain ⟨ca, cc, rfl⟩ := hc.form
 have hll := hl.len
 clear h hl hc hk
 obtain ⟨z, hz⟩ : ∃ z, Hid (checkI t l = z) := ⟨_, rfl⟩
 have hck : Hid (∀ W, Ext w W → Calls Tryz.prog 41 #[.agg #[.slice ta t.length tc], .slice la l.length lc] W fun e w' => e = .returned (.int .i64 z) ∧ Ext W w') := fun W hW => hz.out ▸ check_core_calls _ _ t l W (hT.out.ext hW) (hL.out.ext hW)
 by_cases h0 : z = 0
 ·have d0 : (z != 0) = false := by simp [h0]
  have hz0 : checkI t l = 0 := by rw [hz.out, h0]
  obtain ⟨h5, hi⟩ := sel_few hz0
  have hi' := Lib.hid hi
  have hsp := Lib.hid (spans_valid (checkI_ok hz0).1)
  have hR0 : Hid (coreCheckT t l c = if l.length = 0 then 1 else if checkT (subT t l) 1000000000 c = 0 then lackI t l (List.range l.length) else checkT (subT t l) 1000000000 c) := if_pos hz0
  clear hz hz0 h0 hi
  by_cases hl0 : l.length = 0
  ·have d1 : ((l.length : Int) == 0) = true := by simp [hl0]
   have R : Hid (coreCheckT t l c = 1) := by show _ = _; rw [hR0.out, if_pos hl0]
   clear hR0 hl0
   go_enter Tryz.func22, Tryz.ntmps22
   go_wp2_with fail
   refine (hck.out _ (by with_reducible repeat' (first | exact Ext.refl _ | assumption | refine Ext.drewN ?_ _ | refine Ext.drew ?_ | refine Ext.alloc ?_ _ | refine Ext.trans ?_ (by with_reducible assumption)))).mono ?_
   rintro e w1 ⟨rfl, hx1⟩
   have hB1 : Hid (Blk w1 w.heap.size 27 #[.slice ta t.length tc]) := Lib.hid ((Keep.of_ext (X := fun _ => False) hx1).blk (blk_new' rfl rfl) id)
   have hE1 := Lib.hid (((Ext.refl w).alloc (.cells #[.slice ta t.length tc] 27)).trans hx1)
   clear hx1 hck
   go_wp2
   go_ret
   rw [R.out]
   exact ⟨rfl, hE1.out⟩
  ·have d1 : ((l.length : Int) == 0) = false := by rw [beq_eq_false_iff_ne]; omega
   obtain ⟨k, hk⟩ : ∃ k, Hid (checkT (subT t l) 1000000000 c = k) := ⟨_, rfl⟩
   have hR1 : Hid (coreCheckT t l c = if k = 0 then lackI t l (List.range l.length) else k) := by show _ = _; rw [hR0.out, if_neg hl0, hk.out]
   clear hR0
   go_enter Tryz.func22, Tryz.ntmps22
   go_wp2_with fail
   refine (hck.out _ (by with_reducible repeat' (first | exact Ext.refl _ | assumption | refine Ext.drewN ?_ _ | refine Ext.drew ?_ | refine Ext.alloc ?_ _ | refine Ext.trans ?_ (by with_reducible assumption)))).mono ?_
   rintro e w1 ⟨rfl, hx1⟩
   have hB1 : Hid (Blk w1 w.heap.size 27 #[.slice ta t.length tc]) := Lib.hid ((Keep.of_ext (X := fun _ => False) hx1).blk (blk_new' rfl rfl) id)
   have hE1 := Lib.hid (((Ext.refl w).alloc (.cells #[.slice ta t.length tc] 27)).trans hx1)
   clear hx1 hck
   have c0 : w1.cell? ⟨w.heap.size, 0, none⟩ = some (.slice ta t.length tc) := hB1.out.cell 0
   have l0 := hB1.out.lt
   go_wp2_with fail
   refine (sub_calls _ _ t l w1 (hT.out.ext hE1.out) (hL.out.ext hE1.out) hi'.out (by omega)).mono ?_
   rintro e w2 ⟨sv, rfl, hs, hx2⟩
   obtain ⟨sa, sc, rfl⟩ := hs.form
   have hS2 := Lib.hid hs
   have hB2 := Lib.hid ((Keep.of_ext (X := fun _ => False) hx2).blk hB1.out id)
   have hE2 := Lib.hid (hE1.out.trans hx2)
   clear c0 l0 hs hx2 hB1 hE1
   go_wp2_with fail
   refine (check_callsK _ _ (subT t l) 1000000000 c w2 hS2.out (hN.out.ext hE2.out) hkk.out).mono ?_
   rw [hk.out]
   rintro e w3 ⟨rfl, hx3⟩
   have hB3 := Lib.hid ((Keep.of_ext (X := fun _ => False) hx3).blk hB2.out id)
   have hE3 := Lib.hid (hE2.out.trans hx3)
   clear hx3 hB2 hE2 hS2 hk
   by_cases hk0 : k = 0
   ·have d2 : (k != 0) = false := by simp [hk0]
    have hR2 : Hid (coreCheckT t l c = lackI t l (List.range l.length)) := by show _ = _; rw [hR1.out, if_pos hk0]
    clear hR1 hk0
    go_wp2_with fail
    go_loopw [31] (fun vi wr => ∃ i : Nat, i ≤ l.length ∧ vi = .int .i64 i ∧ Hid (coreCheckT t l c = lackI t l ((List.range l.length).drop i)) ∧ Hid (Blk wr w.heap.size 27 #[.slice ta t.length tc]) ∧ Hid (Ext w wr)) (fun vi _ => l.length - (intOf vi).toNat)
    case atStart => exact ⟨0, by omega, rfl, hR2, hB3, hE3⟩
    case round =>
     clear hR2 hB3 hE3
     obtain ⟨i, hi, rfl, hR, hB, hE⟩ := hrel
     by_cases h1 : i < l.length
     ·obtain ⟨M, hM⟩ : ∃ M, Hid (l.eraseIdx i = M) := ⟨_, rfl⟩
      have hMl : M.length ≤ 512 := by rw [← hM.out, List.length_eraseIdx, if_pos h1]; omega
      have hMi : Hid (∀ x ∈ M, idxB x t.length = true) := fun x hx => hi'.out x (List.mem_of_mem_eraseIdx (hM.out.symm ▸ hx))
      obtain ⟨q, e, hq⟩ : ∃ q e, Hid (standsT t M = (q, e)) := ⟨_, _, rfl⟩
      have hR3 : Hid (coreCheckT t l c = if e ≠ 0 then e else if q then lackI t l ((List.range l.length).drop (i + 1)) else 11) := by
       show _ = _
       rw [hR.out, range_drop h1]
       simp only [lackI]
       rw [hM.out, hq.out]
      clear hR
      go_upto_region 12 with (fail)
      have z0 := After.cell (show wr.cell? ⟨w.heap.size, 0, none⟩ = some (.slice ta t.length tc) from hB.out.cell 0)
      (refine wp_region_held [] [0, 1, 2, 3, 4, 5, 6, 7, 8, 9] [] (CkCon M q e) (by kernel_rfl) (by kernel_rfl) ?_; simp only [pickL]; with_reducible refine wpQuiet_nil ?_)
      (refine held_quiet [0, 1, 2] [3, 4, 5, 6, 7, 8, 9] (by kernel_rfl) (by kernel_rfl) ?_; simp only [pickL, List.drop]; (repeat (go_big_quiet_step (fail))); with_reducible refine wpQuiet_nil ?_)
      (refine held_call 3 [4, 5, 6, 7, 8, 9] rfl (by kernel_rfl) 28 (#[.slice la l.length lc, .int .i64 (i : Int)]) (fun W => by kernel_rfl) rfl ?_ ?_ ?_)
      ·exact fun W W' v e hh => ⟨fun h => (hh.1 h).ext e, hh.2⟩
      ·refine fun W hW _ => (without_calls _ l i W (hL.out.ext (hE.out.trans hW)) h1 (by omega)).mono ?_
       rw [hM.out]
       rintro e W' ⟨v, rfl, hv, hxx⟩
       exact ⟨_, rfl, hxx, ⟨fun _ => hv, (fun h => by cases h)⟩⟩
      rintro v ⟨Y, hY, hCv⟩
      obtain ⟨mA, mC, rfl⟩ := (hCv.1 rfl).form
      clear hCv hY Y
      simp only [Act.put, List.setIfInBounds_toArray, List.set_cons_succ, List.set_cons_zero]
      (refine held_call 4 [5, 6, 7, 8, 9] rfl (by kernel_rfl) 27 (#[.agg #[.slice ta t.length tc], .slice mA M.length mC]) (fun W => by kernel_rfl) rfl ?_ ?_ ?_)
      ·exact fun W W' v e hh => ⟨fun h => (hh.1 h).ext e, hh.2⟩
      ·refine fun W hW hD => (stands_calls _ _ t M W (hT.out.ext (hE.out.trans hW)) (((hD 3 (dep_of 10 4 3 (by kernel_rfl))).2 rfl).1 rfl) hMi.out hMl hsp.out).mono ?_
       rw [hq.out]
       rintro e W' ⟨rfl, hxx⟩
       exact ⟨_, rfl, hxx, ⟨(fun h => by cases h), fun _ => rfl⟩⟩
      rintro v ⟨Y, hY, hCv⟩
      obtain rfl := hCv.2 rfl
      clear hCv hY Y
      simp only [Act.put, List.setIfInBounds_toArray, List.set_cons_succ, List.set_cons_zero]
      (refine held_quiet [5, 6, 7, 8, 9] [] (by kernel_rfl) (by kernel_rfl) ?_; simp only [pickL, List.drop]; (repeat (go_big_quiet_step (fail))); with_reducible refine wpQuiet_nil ?_)
      intro w9 hx9 hfc htk Q0 hQ0
      simp only [pickL]
      have hB9 := Lib.hid ((Keep.of_ext (X := fun _ => False) hx9).blk hB.out id)
      have hE9 := Lib.hid (hE.out.trans hx9)
      clear hfc htk z0 hx9 hB hE hq hM hMi
      refine hQ0 _ _ ?_
      clear hQ0 Q0
      by_cases he : e = 0
      ·have d3 : (e != 0) = false := by simp [he]
       have hR4 : Hid (coreCheckT t l c = if q then lackI t l ((List.range l.length).drop (i + 1)) else 11) := by show _ = _; rw [hR3.out, if_neg (by simp [he])]
       clear hR3 he
       cases q with
       | true =>
        have R : Hid (coreCheckT t l c = lackI t l ((List.range l.length).drop (i + 1))) := hR4.out
        clear hR4
        go_wp2
        go_roundw
        case rel => first | exact ⟨i + 1, h1, by go_num, R, hB9, hE9⟩ | ((repeat apply Exists.intro); exact ⟨⟨i + 1, h1, by go_num, R, hB9, hE9⟩, rfl⟩)
        case measure => simp [intOf]; omega
       | false =>
        have R : Hid (coreCheckT t l c = 11) := hR4.out
        clear hR4
        go_wp2
        go_ret
        rw [R.out]
        exact ⟨rfl, hE9.out⟩
      ·have d3 : (e != 0) = true := by simp [he]
       have R : Hid (coreCheckT t l c = e) := by show _ = _; rw [hR3.out, if_pos he]
       clear hR3 he
       go_wp2
       go_ret
       rw [R.out]
       exact ⟨rfl, hE9.out⟩
     ·have R : Hid (coreCheckT t l c = 0) := by show _ = _; rw [hR.out, List.drop_eq_nil_of_le (by simp; omega)]; rfl
      clear hR
      go_wp2
      go_ret
      rw [R.out]
      exact ⟨rfl, hE.out⟩
   ·have d2 : (k != 0) = true := by simp [hk0]
    have R : Hid (coreCheckT t l c = k) := by show _ = _; rw [hR1.out, if_neg hk0]
    clear hR1 hk0
    go_wp2
    go_ret
    rw [R.out]
    exact ⟨rfl, hE3.out⟩
 ·have d0 : (z != 0) = true := by simp [h0]
  have R : Hid (coreCheckT t l c = z) := by show _ = _; unfold coreCheckT; rw [hz.out, if_neg h0]
  clear hz h0
  go_enter Tryz.func22, Tryz.ntmps22
  go_wp2_with fail
  refine (hck.out _ (by with_reducible repeat' (first | exact Ext.refl _ | assumption | refine Ext.drewN ?_ _ | refine Ext.drew ?_ | refine Ext.alloc ?_ _ | refine Ext.trans ?_ (by with_reducible assumption)))).mono ?_
  rintro e w1 ⟨rfl, hx1⟩
  have hB1 : Hid (Blk w1 w.heap.size 27 #[.slice ta t.length tc]) := Lib.hid ((Keep.of_ext (X := fun _ => False) hx1).blk (blk_new' rfl rfl) id)
  have hE1 := Lib.hid (((Ext.refl w).alloc (.cells #[.slice ta t.length tc] 27)).trans hx1)
  clear hx1 hck
  go_wp2
  go_ret
  rw [R.out]
  exact ⟨rfl, hE1.out⟩
end Go.Proofs.YtjglidlmpjmjeaaGreatDoor
