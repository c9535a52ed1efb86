/- Walks of collide35 and place35. -/
import Derived.Test.YtepcdhpikpmepaaGreatTWQ
namespace Go.Proofs.YtepcdhpikpmepaaGreat
open Go.RowKit Go.Shelf
attribute [local go_sem] Oper.semAt_some

def metB (x y : InstD) : Bool := decide (max (max x.2.1 y.2.1) 0 < min (min x.2.2 y.2.2) 20160)
def collB (a b : StreamD) : Bool := (listI a).any fun x => (listI b).any fun y => metB x y
def WdCon (k : Nat) (v : Value) (_ : World) : Prop := k = 25 → v = .agg #[.int .i64 0, .int .i64 20160]
set_option maxHeartbeats 3200000 in
set_option maxRecDepth 100000 in
theorem collide35_calls (va vb : Value) (a b : StreamD) (w : World) (ha : StreamV w va a) (hb : StreamV w vb b) (hoa : StreamOk a) (hob : StreamOk b) :
  Calls Tryz.prog 12 #[va, vb] w fun e w' => e = .returned (.bool (collB a b)) ∧ Ext w w' := by
 have hva := Lib.hid ha
 have hvb := Lib.hid hb
 have hoa' := Lib.hid hoa
 have hob' := Lib.hid hob
 obtain ⟨c1, e1, rfl, hc1, he1⟩ := ha
 obtain ⟨c2, e2, rfl, hc2, he2⟩ := hb
 obtain ⟨p1, q1, rfl, _⟩ := hc1.open
 obtain ⟨p2, q2, rfl⟩ := he1.form
 obtain ⟨p3, q3, rfl, _⟩ := hc2.open
 obtain ⟨p4, q4, rfl⟩ := he2.form
 obtain ⟨n1, hn1⟩ : ∃ n, Hid (a.classes.length = n) := ⟨_, rfl⟩
 obtain ⟨n2, hn2⟩ : ∃ n, Hid (a.extra.length = n) := ⟨_, rfl⟩
 obtain ⟨n3, hn3⟩ : ∃ n, Hid (b.classes.length = n) := ⟨_, rfl⟩
 obtain ⟨n4, hn4⟩ : ∃ n, Hid (b.extra.length = n) := ⟨_, rfl⟩
 obtain ⟨l1, hl1⟩ : ∃ n, Hid (a.len = n) := ⟨_, rfl⟩
 obtain ⟨l2, hl2⟩ : ∃ n, Hid (b.len = n) := ⟨_, rfl⟩
 rw [hn1.out, hn2.out, hl1.out] at hva ⊢
 rw [hn3.out, hn4.out, hl2.out] at hvb ⊢
 clear hc1 he1 hc2 he2 hoa hob
 go_enter Tryz.func12, Tryz.ntmps12
 go_upto_region 1 with (fail)
 refine wp_abs (S := fun W => Hid (Ext w W) ∧ Hid (Blk W w.heap.size 50 #[.slice p1 n1 q1, .int .i64 l1, .slice p2 n2 q2]) ∧ Hid (Blk W (w.heap.size + 1) 50 #[.slice p3 n3 q3, .int .i64 l2, .slice p4 n4 q4])) ?_ ?_
 ·exact ⟨Lib.hid (by exact (by with_reducible repeat' (first | exact Ext.refl _ | assumption | refine Ext.drewN ?_ _ | refine Ext.drew ?_ | refine Ext.alloc ?_ _ | refine Ext.trans ?_ (by with_reducible assumption)))), Lib.hid (Blk.alloc (blk_new' rfl rfl) _), Lib.hid (blk_new' (by simp) rfl)⟩
 rintro w1 ⟨hE1, hA1, hB1⟩
 have z0 := After.cell (show w1.cell? ⟨w.heap.size, 0, none⟩ = some (.slice p1 n1 q1) from hA1.out.cell 0)
 have z1 := After.cell (show w1.cell? ⟨w.heap.size, 1, none⟩ = some (.int .i64 l1) from hA1.out.cell 1)
 have z2 := After.cell (show w1.cell? ⟨w.heap.size, 2, none⟩ = some (.slice p2 n2 q2) from hA1.out.cell 2)
 (refine wp_region_held [] [0, 1, 2, 3, 4, 5, 6, 7] [] (SpCon a) (by kernel_rfl) (by kernel_rfl) ?_; simp only [pickL]; with_reducible refine wpQuiet_nil ?_)
 (refine held_quiet [0] [1, 2, 3, 4, 5, 6, 7] (by kernel_rfl) (by kernel_rfl) ?_; simp only [pickL, List.drop]; (repeat (go_big_quiet_step (fail))); with_reducible refine wpQuiet_nil ?_)
 (refine held_call 1 [2, 3, 4, 5, 6, 7] rfl (by kernel_rfl) 33 (#[]) (fun W => by kernel_rfl) rfl ?_ ?_ ?_)
 ·exact fun W W' v e hh => ⟨hh.1, fun k => let ⟨lv, a, b⟩ := hh.2 k; ⟨lv, a, b.ext e⟩⟩
 ·refine fun W hW _ => (window35_calls W).mono ?_
  rintro e W' ⟨rfl, hx⟩
  exact ⟨_, rfl, hx, fun _ => rfl, fun k => absurd k (by decide)⟩
 rintro v ⟨Y, hY, hC⟩
 obtain rfl := hC.1 rfl
 clear hC hY Y
 simp only [Act.put, List.setIfInBounds_toArray, List.set_cons_succ, List.set_cons_zero]
 (refine held_call 2 [3, 4, 5, 6, 7] rfl (by kernel_rfl) 32 (#[.agg #[.slice p1 n1 q1, .int .i64 l1, .slice p2 n2 q2], .agg #[.int .i64 0, .int .i64 20160]]) (fun W => by kernel_rfl) rfl ?_ ?_ ?_)
 ·exact fun W W' v e hh => ⟨hh.1, fun k => let ⟨lv, a, b⟩ := hh.2 k; ⟨lv, a, b.ext e⟩⟩
 ·refine fun W hW _ => (list_calls _ a W (hva.out.ext (hE1.out.trans hW)) hoa'.out).mono ?_
  rintro e W' ⟨lv, rfl, hl, hx⟩
  exact ⟨_, rfl, hx, fun k => absurd k (by decide), fun _ => ⟨_, rfl, hl⟩⟩
 rintro v ⟨Y, hY, hC⟩
 obtain ⟨lv, rfl, hL⟩ := hC.2 rfl
 obtain ⟨L, Ld⟩ : ∃ L, Hid (listI a = L) := ⟨_, rfl⟩
 rw [Ld.out] at hL
 obtain ⟨La, Lc, rfl⟩ := hL.form
 clear hC hY hL Y
 simp only [Act.put, List.setIfInBounds_toArray, List.set_cons_succ, List.set_cons_zero]
 (refine held_quiet [3, 4, 5, 6, 7] [] (by kernel_rfl) (by kernel_rfl) ?_; simp only [pickL, List.drop]; (repeat (go_big_quiet_step (fail))); with_reducible refine wpQuiet_nil ?_)
 intro w2 hW hf ht Q0 hQ0
 obtain ⟨_, e1, hL⟩ := ((hf 2).2 rfl).2 rfl
 cases e1
 rw [Ld.out] at hL
 obtain ⟨_, _, e1, _, Lcap, Lat⟩ := hL.open
 cases e1
 have Lat' := Lib.hid Lat
 have Lq := Lib.hid hW
 have Llen : L.length ≤ 55 := by rw [← Ld.out]; exact listI_len hoa'.out
 simp only [pickL]
 clear hf ht hW hL Lat
 have hE2 := Lib.hid (hE1.out.trans Lq.out)
 have hB2 := Lib.hid ((Keep.of_ext (X := fun _ => False) Lq.out).blk hB1.out id)
 clear z0 z1 z2 hA1 hB1 hE1
 have z0 := After.cell (show w2.cell? ⟨w.heap.size + 1, 0, none⟩ = some (.slice p3 n3 q3) from hB2.out.cell 0)
 have z1 := After.cell (show w2.cell? ⟨w.heap.size + 1, 1, none⟩ = some (.int .i64 l2) from hB2.out.cell 1)
 have z2 := After.cell (show w2.cell? ⟨w.heap.size + 1, 2, none⟩ = some (.slice p4 n4 q4) from hB2.out.cell 2)
 go_upto_region 2 with (fail)
 (refine wp_region_held [] [0, 1, 2, 3, 4, 5, 6, 7] [] (SpCon b) (by kernel_rfl) (by kernel_rfl) ?_; simp only [pickL]; with_reducible refine wpQuiet_nil ?_)
 (refine held_quiet [0] [1, 2, 3, 4, 5, 6, 7] (by kernel_rfl) (by kernel_rfl) ?_; simp only [pickL, List.drop]; (repeat (go_big_quiet_step (fail))); with_reducible refine wpQuiet_nil ?_)
 (refine held_call 1 [2, 3, 4, 5, 6, 7] rfl (by kernel_rfl) 33 (#[]) (fun W => by kernel_rfl) rfl ?_ ?_ ?_)
 ·exact fun W W' v e hh => ⟨hh.1, fun k => let ⟨lv, a, b⟩ := hh.2 k; ⟨lv, a, b.ext e⟩⟩
 ·refine fun W hW _ => (window35_calls W).mono ?_
  rintro e W' ⟨rfl, hx⟩
  exact ⟨_, rfl, hx, fun _ => rfl, fun k => absurd k (by decide)⟩
 rintro v ⟨Y, hY, hC⟩
 obtain rfl := hC.1 rfl
 clear hC hY Y
 simp only [Act.put, List.setIfInBounds_toArray, List.set_cons_succ, List.set_cons_zero]
 (refine held_call 2 [3, 4, 5, 6, 7] rfl (by kernel_rfl) 32 (#[.agg #[.slice p3 n3 q3, .int .i64 l2, .slice p4 n4 q4], .agg #[.int .i64 0, .int .i64 20160]]) (fun W => by kernel_rfl) rfl ?_ ?_ ?_)
 ·exact fun W W' v e hh => ⟨hh.1, fun k => let ⟨lv, a, b⟩ := hh.2 k; ⟨lv, a, b.ext e⟩⟩
 ·refine fun W hW _ => (list_calls _ b W (hvb.out.ext (hE2.out.trans hW)) hob'.out).mono ?_
  rintro e W' ⟨lv, rfl, hl, hx⟩
  exact ⟨_, rfl, hx, fun k => absurd k (by decide), fun _ => ⟨_, rfl, hl⟩⟩
 rintro v ⟨Y, hY, hC⟩
 obtain ⟨lv, rfl, hL⟩ := hC.2 rfl
 obtain ⟨M, Md⟩ : ∃ L, Hid (listI b = L) := ⟨_, rfl⟩
 rw [Md.out] at hL
 obtain ⟨Ma, Mc, rfl⟩ := hL.form
 clear hC hY hL Y
 simp only [Act.put, List.setIfInBounds_toArray, List.set_cons_succ, List.set_cons_zero]
 (refine held_quiet [3, 4, 5, 6, 7] [] (by kernel_rfl) (by kernel_rfl) ?_; simp only [pickL, List.drop]; (repeat (go_big_quiet_step (fail))); with_reducible refine wpQuiet_nil ?_)
 intro w3 hW hf ht Q0 hQ0
 obtain ⟨_, e1, hL⟩ := ((hf 2).2 rfl).2 rfl
 cases e1
 rw [Md.out] at hL
 obtain ⟨_, _, e1, _, Mcap, Mat⟩ := hL.open
 cases e1
 have Mat' := Lib.hid Mat
 have Mq := Lib.hid hW
 have Mlen : M.length ≤ 55 := by rw [← Md.out]; exact listI_len hob'.out
 simp only [pickL]
 clear hf ht hW hL Mat
 have hE3 := Lib.hid (hE2.out.trans Mq.out)
 clear z0 z1 z2 hB2 hE2
 go_upto_region 3 with (fail)
 go_wp2_with fail
 go_loopw [9, 10, 11, 12] (fun v9 _ _ _ wr => ∃ i : Nat, i ≤ L.length ∧ v9 = .int .i64 i ∧ Hid (Ext w3 wr) ∧ Hid (∀ x ∈ L.take i, (M.any fun y => metB x y) = false)) (fun v9 _ _ _ _ => L.length - (intOf v9).toNat)
 case atStart => exact ⟨0, by omega, rfl, Lib.hid (Ext.refl _), Lib.hid (fun x hx => by simp at hx)⟩
 case round =>
  obtain ⟨i, hi, rfl, hx, hno⟩ := hrel
  by_cases h1 : i < L.length
  ·obtain ⟨b1, o1, d, f, t, rfl, hb1, _, ex, g0, g1, g2⟩ := Lat'.out i h1 wr (Mq.out.trans hx.out)
   go_wp2_with fail
   go_loopw [10, 11, 12] (fun v10 _ _ wr2 => ∃ k : Nat, k ≤ M.length ∧ v10 = .int .i64 k ∧ Hid (Ext wr wr2) ∧ Hid (∀ y ∈ M.take k, metB (d, f, t) y = false)) (fun v10 _ _ _ => M.length - (intOf v10).toNat)
   case atStart => exact ⟨0, by omega, rfl, Lib.hid (Ext.refl _), Lib.hid (fun x hx => by simp at hx)⟩
   case round =>
    obtain ⟨k, hk, rfl, hx2, hno2⟩ := hrel
    rename World => wq
    by_cases h2 : k < M.length
    ·obtain ⟨b2, o2, d2, f2, t2, rfl, hb2, _, ey, y0, y1, y2⟩ := Mat'.out k h2 wq (hx.out.trans hx2.out)
     have x1 := After.cell (hx2.out.cell g1)
     have x2 := After.cell (hx2.out.cell g2)
     have x3 := After.cell y1
     have x4 := After.cell y2
     clear y0 y1 y2
     obtain ⟨mx, hmx⟩ : ∃ m, max (max f f2) 0 = m := ⟨_, rfl⟩
     obtain ⟨mn, hmn⟩ : ∃ m, min (min t t2) 20160 = m := ⟨_, rfl⟩
     go_upto_region 9 with (fail)
     (refine wp_region_held [] [0, 1, 2, 3, 4, 5, 6, 7, 8, 9, 10, 11, 12, 13, 14, 15, 16, 17, 18, 19, 20, 21, 22, 23, 24, 25, 26, 27, 28, 29] [] (WdCon) (by kernel_rfl) (by kernel_rfl) ?_; simp only [pickL]; with_reducible refine wpQuiet_nil ?_)
     (refine held_quiet [0, 1, 2, 3, 4, 5, 6, 7, 8, 9, 10, 11] [12, 13, 14, 15, 16, 17, 18, 19, 20, 21, 22, 23, 24, 25, 26, 27, 28, 29] (by kernel_rfl) (by kernel_rfl) ?_; simp only [pickL, List.drop]; (repeat (go_big_quiet_step (fail))); with_reducible refine wpQuiet_nil ?_)
     refine held_val heldPost_anti 12 [13, 14, 15, 16, 17, 18, 19, 20, 21, 22, 23, 24, 25, 26, 27, 28, 29] rfl (by kernel_rfl) (.int .i64 mx) rfl (fun W hW hD => ?_) ?_
     ·go_simp
      rw [← hmx]
      (repeat' split) <;> omega
     simp only [Act.put, List.setIfInBounds_toArray, List.set_cons_succ, List.set_cons_zero]
     (refine held_quiet [13, 14, 15, 16, 17, 18, 19, 20, 21, 22, 23, 24] [25, 26, 27, 28, 29] (by kernel_rfl) (by kernel_rfl) ?_; simp only [pickL, List.drop]; (repeat (go_big_quiet_step (fail))); with_reducible refine wpQuiet_nil ?_)
     (refine held_call 25 [26, 27, 28, 29] (by simp only [List.drop]; rfl) (by kernel_rfl) 33 (#[]) (fun W => by kernel_rfl) (by kernel_rfl) ?_ ?_ ?_)
     ·exact fun W W' v e hh => hh
     ·refine fun W hW _ => (window35_calls W).mono ?_
      rintro e W' ⟨rfl, hx⟩
      exact ⟨_, rfl, hx, fun _ => rfl⟩
     rintro v ⟨Y, hY, hC⟩
     obtain rfl := hC rfl
     clear hC hY Y
     simp only [Act.put, List.setIfInBounds_toArray, List.set_cons_succ, List.set_cons_zero]
     refine held_val heldPost_anti 26 [27, 28, 29] rfl (by kernel_rfl) (.int .i64 20160) rfl (fun W hW hD => ?_) ?_
     ·first
      | kernel_rfl
      | (go_simp; rfl)
     simp only [Act.put, List.setIfInBounds_toArray, List.set_cons_succ, List.set_cons_zero]
     refine held_val heldPost_anti 27 [28, 29] rfl (by kernel_rfl) (.int .i64 mn) rfl (fun W hW hD => ?_) ?_
     ·go_simp
      rw [← hmn]
      (repeat' split) <;> omega
     simp only [Act.put, List.setIfInBounds_toArray, List.set_cons_succ, List.set_cons_zero]
     (refine held_quiet [28, 29] [] (by kernel_rfl) (by kernel_rfl) ?_; simp only [pickL, List.drop]; (repeat (go_big_quiet_step (fail))); with_reducible refine wpQuiet_nil ?_)
     intro w4 hW hf ht Q0 hQ0
     have hx4 := Lib.hid (hx2.out.trans hW)
     simp only [pickL]
     clear hf ht hW
     have hmt : Hid (metB (d, f, t) (d2, f2, t2) = decide (mx < mn)) := Lib.hid (by unfold metB; dsimp only; rw [hmx, hmn])
     clear hmx hmn x1 x2 x3 x4
     by_cases q : mx < mn
     ·have dq : decide (mx < mn) = true := decide_eq_true q
      have hR : Hid (collB a b = true) := Lib.hid (by
       unfold collB
       rw [Ld.out, Md.out, List.any_eq_true]
       refine ⟨_, List.mem_of_getElem? ex.out, ?_⟩
       rw [List.any_eq_true]
       exact ⟨_, List.mem_of_getElem? ey.out, by rw [hmt.out, dq]⟩)
      clear q
      go_wp2
      go_ret
      exact ⟨by rw [hR.out]; rfl, hE3.out.trans (hx.out.trans hx4.out)⟩
     ·have dq : decide (mx < mn) = false := decide_eq_false q
      have hN : Hid (∀ y ∈ M.take (k + 1), metB (d, f, t) y = false) := Lib.hid (fun y hy => by
       rw [List.take_add_one, ey.out] at hy
       rcases List.mem_append.1 hy with hy | hy
       ·exact hno2.out y hy
       ·simp at hy
        rw [hy, hmt.out, dq])
      clear q
      go_wp2
      go_roundw
      case rel => exact ⟨k + 1, by omega, by go_num, hx4, hN⟩
      case measure => simp [intOf]; omega
    ·have hN : Hid (∀ x ∈ L.take (i + 1), (M.any fun y => metB x y) = false) := Lib.hid (fun x hx => by
      rw [List.take_add_one, ex.out] at hx
      rcases List.mem_append.1 hx with hx | hx
      ·exact hno.out x hx
      ·simp at hx
       rw [hx, List.any_eq_false]
       intro y hy
       have := hno2.out y (by rwa [List.take_of_length_le (by omega)])
       simp [this])
     have hx5 := Lib.hid (hx.out.trans hx2.out)
     go_wp2
     go_roundw
     case rel => exact ⟨i + 1, by omega, by go_num, hx5, hN⟩
     case measure => simp [intOf]; omega
  ·have hR : Hid (collB a b = false) := Lib.hid (by
    unfold collB
    rw [Ld.out, Md.out, List.any_eq_false]
    intro x hx
    have := hno.out x (by rwa [List.take_of_length_le (by omega)])
    simp [this])
   go_wp2
   go_ret
   exact ⟨by rw [hR.out]; rfl, hE3.out.trans hx.out⟩
/-! ### place35 -/
def placeT (t : List WishD) (i : Nat) (a : Nat) : Int := match (t[i]?.getD default).opts[a]? with | some o => o.room | none => -1
set_option maxHeartbeats 1600000 in
theorem place35_calls (v : Value) (t : List WishD) (i a : Nat) (w : World) (h : Wishes w v t) (hi : i < t.length) :
  Calls Tryz.prog 11 #[.agg #[v], .int .i64 i, .int .i64 a] w fun e w' => e = .returned (.int .i64 (placeT t i a)) ∧ Ext w w' := by
 obtain ⟨ta, tc, rfl, htn, htc, hat⟩ := h.open
 obtain ⟨b, o, x, pa, pc, oa, oc, rfl, hb, _, ex, g0, g1, g2, _, hop⟩ := hat i hi w (Ext.refl _)
 obtain ⟨_, _, e1, hon, hoc, hoat⟩ := hop.open
 cases e1
 have hb' : b < w.heap.size := hb
 clear h hat g0 g1
 by_cases q : a < x.opts.length
 ·have d1 : decide ((x.opts.length : Int) ≤ (a : Int)) = false := decide_eq_false (by omega)
  obtain ⟨b2, o2, y, sa, sc, rfl, hb2, _, ey, k0, k1, k2, _⟩ := hoat a q w (Ext.refl _)
  have R : Hid (placeT t i a = y.room) := Lib.hid (by unfold placeT; rw [ex.out, Option.getD_some, ey.out])
  rw [R.out]
  obtain ⟨rm, hrm⟩ : ∃ r, y.room = r := ⟨_, rfl⟩
  obtain ⟨n, hn⟩ : ∃ n, x.opts.length = n := ⟨_, rfl⟩
  rw [hrm] at k1 ⊢
  rw [hn] at g2 d1 q hon
  clear R k0 k2 ey ex hop hoat hrm hn
  go_enter Tryz.func11, Tryz.ntmps11
  go_wp2
  go_ret
  exact ⟨rfl, (by with_reducible repeat' (first | exact Ext.refl _ | assumption | refine Ext.drewN ?_ _ | refine Ext.drew ?_ | refine Ext.alloc ?_ _ | refine Ext.trans ?_ (by with_reducible assumption)))⟩
 ·have d1 : decide ((x.opts.length : Int) ≤ (a : Int)) = true := decide_eq_true (by omega)
  have R : Hid (placeT t i a = -1) := Lib.hid (by unfold placeT; rw [ex.out, Option.getD_some, List.getElem?_eq_none (by omega)])
  rw [R.out]
  obtain ⟨n, hn⟩ : ∃ n, x.opts.length = n := ⟨_, rfl⟩
  rw [hn] at g2 d1 q hon
  clear R ex hop hoat hn
  go_enter Tryz.func11, Tryz.ntmps11
  go_wp2
  go_ret
  exact ⟨rfl, (by with_reducible repeat' (first | exact Ext.refl _ | assumption | refine Ext.drewN ?_ _ | refine Ext.drew ?_ | refine Ext.alloc ?_ _ | refine Ext.trans ?_ (by with_reducible assumption)))⟩
end Go.Proofs.YtepcdhpikpmepaaGreat
