/- Merged parts: UV, UR, US, VB. -/
import Derived.Test.YtjglidlmpjmjeaaGreatDoorUI
import Derived.Test.YtjglidlmpjmjeaaGreatDoorRH
import Derived.Test.YtjglidlmpjmjeaaGreatDoorRC
/- The reference's Sub: the wishes as an earlier world knows them (printed by mkuv.py from UI). -/
namespace Go.Proofs.YtjglidlmpjmjeaaGreatDoor
open Go.RowKit List
attribute [local go_sem] Oper.semAt_some

set_option maxHeartbeats 3200000 in
set_option maxRecDepth 100000 in
theorem rSub_callsV (wv lv : Value) (t : List WishD) (l : List Int) (v0 w : World) (h : Wishes v0 wv t) (e0 : Ext v0 w) (hl : Ints w lv l) (hsel : ∀ x ∈ l, idxB x t.length = true) (hlen : l.length ≤ 1000) :
  Calls Tryz.prog 51 #[.agg #[wv], lv] w fun e w' => ∃ v xs, e = .returned (.agg #[v]) ∧ w'.ownsRow w.heap.size 52 3 v (subT t l).length xs ∧ WishesC v0 (subT t l) xs ∧ Ext w w' := by
 obtain ⟨ta, tc, rfl, htn, htc, hat⟩ := h.open
 obtain ⟨la, lc, rfl, hn, hc, hlat⟩ := hl.open
 have hat' := Lib.hid hat
 have he0 := Lib.hid e0
 have hlat' := Lib.hid hlat
 have hsel' := Lib.hid hsel
 obtain ⟨j0, hj0, jz0, jz1, jz2⟩ := info_parts wish_info
 clear h hl hat hlat hsel e0
 go_enter Tryz.func51, Tryz.ntmps51
 go_upto_region 2 with (fail)
 refine wp_abs (S := fun W => Hid (Ext w W) ∧ Hid (Blk W w.heap.size 27 #[.slice ta t.length tc]) ∧ Hid (Blk W (w.heap.size + 1) 27 #[.slice none 0 0]) ∧ Hid (Blk W (w.heap.size + 2) 27 #[.slice none 0 0])) ?_ ?_
 ·exact ⟨Lib.hid (by exact (by with_reducible repeat' (first | exact Ext.refl _ | assumption | refine Ext.drewN ?_ _ | refine Ext.drew ?_ | refine Ext.alloc ?_ _ | refine Ext.trans ?_ (by with_reducible assumption)))), Lib.hid (Blk.alloc (Blk.alloc (blk_new' rfl rfl) _) _), Lib.hid (Blk.alloc (blk_new' (by simp) rfl) _), Lib.hid (blk_new' (by simp) rfl)⟩
 rintro W1 ⟨hE1, hB1, hR1, hO1⟩
 go_wp2_with fail
 go_loopw [6] (fun vi wr => ∃ (i : Nat) (A : Option Addr) (C : Nat) (xs : List Value), i ≤ l.length ∧ vi = .int .i64 i ∧ Hid (Ext w wr) ∧ Hid (Blk wr w.heap.size 27 #[.slice ta t.length tc]) ∧ Hid (Blk wr (w.heap.size + 1) 27 #[.slice none 0 0]) ∧ Hid (Blk wr (w.heap.size + 2) 27 #[.slice A i C]) ∧ Hid (wr.ownsRow (w.heap.size + 3) 52 3 (.slice A i C) i xs) ∧ Hid (WishesC v0 (subT t (l.take i)) xs)) (fun vi _ => l.length - (intOf vi).toNat)
 case atStart => exact ⟨0, none, 0, [], by omega, rfl, hE1, hB1, hR1, hO1, Lib.hid (World.ownsRow_nil _ _ _ _), Lib.hid rfl⟩
 case round =>
  clear hE1 hB1 hR1 hO1
  obtain ⟨i, A, C, xs, hi, rfl, hE, hB, hR, hO, hown, hW⟩ := hrel
  by_cases h1 : i < l.length
  ·obtain ⟨b1, o1, x, rfl, hb1, _, ex, g1⟩ := hlat'.out i h1 wr hE.out
   obtain ⟨k, rfl, hk⟩ := idxB_nat (hsel'.out x (List.mem_of_getElem? ex.out))
   obtain ⟨b2, o2, y, pa, pc, oa, oc, rfl, hb2, _, ey, q1, q2, q3, gp, go⟩ := hat'.out k hk v0 (Ext.refl _)
   have hnext : Hid (subT t (l.take (i + 1)) = subT t (l.take i) ++ [y]) := subT_take ex.out (by simpa using ey.out)
   have hWn : Hid (WishesC v0 (subT t (l.take (i + 1))) (xs ++ [.int .i64 y.meeting, .slice pa y.people.length pc, .slice oa y.opts.length oc])) := by rw [hnext.out]; exact Lib.hid (WishesC.snoc ⟨gp, go⟩ hW.out)
   have z0 := After.cell g1
   have z1 := After.cell ((he0.out.trans hE.out).cell q1)
   have z2 := After.cell ((he0.out.trans hE.out).cell q2)
   have z3 := After.cell ((he0.out.trans hE.out).cell q3)
   have z4 := After.cell (show wr.cell? ⟨w.heap.size, 0, none⟩ = some (.slice (some ⟨b2, o2, none⟩) t.length tc) from hB.out.cell 0)
   have z5 := After.cell (show wr.cell? ⟨w.heap.size + 2, 0, none⟩ = some (.slice A i C) from hO.out.cell 0)
   clear q1 q2 q3 gp go ey ex hnext hW hb1 g1
   go_upto_region 5 with (fail)
   (refine wp_region_held [] [0, 1, 2, 3, 4, 5, 6, 7, 8, 9, 10] [11, 12, 13] (fun _ _ _ => True) (by kernel_rfl) (by kernel_rfl) ?_; simp only [pickL]; with_reducible refine wpQuiet_nil ?_)
   (refine held_quiet [0, 1, 2, 3, 4, 5, 6, 7, 8, 9] [10] (by kernel_rfl) (by kernel_rfl) ?_; simp only [pickL, List.drop]; (repeat (go_big_quiet_step (fail))); with_reducible refine wpQuiet_nil ?_)
   (refine held_made 10 [] rfl (by kernel_rfl) (fun g => .slice (some ⟨g, 0, none⟩) 1 1) (.cells #[.int .i64 y.meeting, .slice pa y.people.length pc, .slice oa y.opts.length oc] 52) (fun W => by kernel_rfl) (fun g g2 e => by cases e; rfl) (fun g => rfl) ?_)
   intro gs
   simp only [Act.put, List.setIfInBounds_toArray, List.set_cons_succ, List.set_cons_zero]
   intro V hxv hfc ht Q0 hQ0
   have h7 := (hfc 10).2 rfl
   have b7 : Blk V gs 52 #[.int .i64 y.meeting, .slice pa y.people.length pc, .slice oa y.opts.length oc] := h7.1
   have hsrc := Lib.hid (reads_blkW (size := 3) (m := 1) b7 rfl)
   have hownV := Lib.hid (owns_ext hown.out hxv)
   have hEV := Lib.hid (hE.out.trans hxv)
   have kv := Keep.of_ext (X := fun _ => False) hxv
   have hBV := Lib.hid (kv.blk hB.out id)
   have hRV := Lib.hid (kv.blk hR.out id)
   have hOV := Lib.hid (kv.blk hO.out id)
   have hsz : w.heap.size + 3 ≤ V.heap.size := by have := hOV.out.lt; omega
   simp only [pickL, List.drop]
   clear hfc ht h7 b7 z0 z1 z2 z3 z4 z5 hown hE kv hB hR hO hxv
   go_wp2_with (at_builtin; refine wpList_append_any _ rfl (.tmp 15) (.tmp 24) _ rfl (w.heap.size + 3) 52 j0 _ 3 56 Tryz.underlying25 hj0 jz0 jz1 jz2 rfl (by decide) (.slice A i C) i _ rfl hownV.out V.heap.size (some ⟨gs, 0, none⟩) 1 1 _ rfl hsrc.out (wish_cells _ _ _ rfl rfl) (by unfold maxLen; omega) (by omega) hsz ?_; intro v5 w5 hown5 hg5 hat5; obtain ⟨A5, C5, rfl⟩ := owns_form hown5; have hOb5 : Blk w5 (w.heap.size + 2) 27 #[.slice A i C] := hOV.out.grown hg5 (fun e => by have := (hownV.out.lt _ e.symm).1; omega); have m5 : w5.cell? ⟨w.heap.size + 2, 0, none⟩ = some (.slice A i C) := hOb5.cell 0; have f5 := hOb5.frozen 0; have lt5 := hOb5.lt)
   have hg6 : w5.heap.size ≥ V.heap.size := hg5.size
   have hE5 := hEV.out.grown hg5 (fun k e => by have := (hownV.out.lt _ e).1; omega)
   have hB5 := hBV.out.grown hg5 (fun e => by have := (hownV.out.lt _ e.symm).1; omega)
   have hR5 := hRV.out.grown hg5 (fun e => by have := (hownV.out.lt _ e.symm).1; omega)
   have hO5 := hOb5.set_ 0 (.slice A5 (i + 1) C5)
   have k5 := keep_set w5 (w.heap.size + 2) 0 (.slice A5 (i + 1) C5)
   have o5 := k5.owns hown5 (fun g e h => by have := (hown5.lt _ e).1; omega)
   refine ⟨⟨i + 1, A5, C5, _, h1, by go_num, Lib.hid (hE5.setCell (by show w.heap.size ≤ w.heap.size + 2; omega) _), Lib.hid (hB5.far (by show w.heap.size ≠ w.heap.size + 2; omega) _), Lib.hid (hR5.far (by show w.heap.size + 1 ≠ w.heap.size + 2; omega) _), Lib.hid hO5, Lib.hid o5, hWn⟩, ?_⟩
   simp [intOf]; omega
  ·have hWl : Hid (WishesC v0 (subT t l) xs) := by
    have := hW.out
    rwa [List.take_of_length_le (by omega)] at this
   obtain rfl : i = l.length := by omega
   have m5 : wr.cell? ⟨w.heap.size + 2, 0, none⟩ = some (.slice A l.length C) := hO.out.cell 0
   have m6 : wr.cell? ⟨w.heap.size + 1, 0, none⟩ = some (.slice none 0 0) := hR.out.cell 0
   have f6 := hR.out.frozen 0
   have l5 := hO.out.lt
   have l6 := hR.out.lt
   clear hW
   go_wp2
   refine bodyPost_ret (rsub_results rfl (hR.out.set_ 0 _)) rfl ?_
   have hE9 := hE.out.setCell (p := ⟨w.heap.size + 1, 0, none⟩) (by show w.heap.size ≤ w.heap.size + 1; omega) (.slice A l.length C)
   have o9 := (keep_set wr (w.heap.size + 1) 0 (.slice A l.length C)).owns hown.out (fun g e h => by have := (hown.out.lt _ e).1; omega)
   exact ⟨_, xs, rfl, by rw [sub_len]; exact owns_base o9 (by omega), hWl.out, hE9⟩
end Go.Proofs.YtjglidlmpjmjeaaGreatDoor

/- Walks of the reference of cores: clashes, from, stands, Stands, Of. -/
namespace Go.Proofs.YtjglidlmpjmjeaaGreatDoor
open Go.RowKit List

theorem clashT_at {t : List WishD} {pick : List Int} {k d : Nat} {a b : Int} (hv : validT t = 0) (hk : pick[k]? = some a) (hd : pick[d]? = some b) (hkd : k ≠ d) (h1 : (optOf t pick k).isSome) (h2 : (optOf t pick d).isSome) : clashT t k a d b = clashAt t pick k d := by
 obtain ⟨⟨x, o⟩, e1⟩ := Option.isSome_iff_exists.1 h1
 obtain ⟨⟨y, p⟩, e2⟩ := Option.isSome_iff_exists.1 h2
 obtain ⟨m, a1, a2, a3⟩ := optOf_spec e1
 obtain ⟨n, b1, b2, b3⟩ := optOf_spec e2
 dsimp only at a1 a3 b1 b3
 obtain rfl : a = (m : Int) := Option.some.inj (hk.symm.trans a2)
 obtain rfl : b = (n : Int) := Option.some.inj (hd.symm.trans b2)
 unfold clashT clashAt
 rw [e1, e2, decide_eq_true hv, decide_eq_true (show ((k : Int) ≠ (d : Int)) by omega)]
 have i1 := idxB_of_lt (List.getElem?_eq_some_iff.1 a1).1
 have i2 := idxB_of_lt (List.getElem?_eq_some_iff.1 b1).1
 have i3 := idxB_of_lt (List.getElem?_eq_some_iff.1 a3).1
 have i4 := idxB_of_lt (List.getElem?_eq_some_iff.1 b3).1
 have g1 : optAt t k m = some (x, o) := by simp [optAt, a1, a3, i1, i3]
 have g2 : optAt t d n = some (y, p) := by simp [optAt, b1, b3, i2, i4]
 rw [g1, g2]
 rfl
structure RfS (w0 w : World) (Sb Pk : Nat) (sa : Option Addr) (sc : Nat) (t : List WishD) (xs : List Value) (v : Nat) (pick : List Int) : Prop where
 ext : Ext w0 w
 own : w.ownsRow w0.heap.size 52 3 (.slice sa t.length sc) t.length xs
 box : Blk w Sb 81 #[.slice sa t.length sc, .slice (some ⟨Pk, 0, none⟩) t.length t.length, .int .i64 (v : Int)]
 row : Blk w Pk 3 (pick.map (Value.int .i64)).toArray
 plen : pick.length = t.length
 s0 : w0.heap.size ≤ Sb
 p0 : w0.heap.size ≤ Pk
section
variable {w0 w : World} {Sb Pk : Nat} {sa : Option Addr} {sc : Nat} {t : List WishD} {xs : List Value} {v : Nat} {pick : List Int}
theorem RfS.toExt {w' : World} (h : RfS w0 w Sb Pk sa sc t xs v pick) (e : Ext w w') : RfS w0 w' Sb Pk sa sc t xs v pick :=
 have k := Keep.of_ext (X := fun _ => False) e
 ⟨h.ext.trans e, owns_ext h.own e, k.blk h.box id, k.blk h.row id, h.plen, h.s0, h.p0⟩
theorem RfS.setV (h : RfS w0 w Sb Pk sa sc t xs v pick) (v' : Nat) : RfS w0 (w.setCell ⟨Sb, 2, none⟩ (.int .i64 (v' : Int))) Sb Pk sa sc t xs v' pick :=
 ⟨h.ext.setCell h.s0 _, owns_keepT h.own (keep_set w Sb 2 _) (TX.one h.box) (by decide), h.box.set_ 2 _, h.row.far (h.row.ne_ h.box (by decide)) _, h.plen, h.s0, h.p0⟩
theorem RfS.setP (h : RfS w0 w Sb Pk sa sc t xs v pick) (d : Nat) (i : Int) : RfS w0 (w.setCell ⟨Pk, d, none⟩ (.int .i64 i)) Sb Pk sa sc t xs v (pick.set d i) :=
 ⟨h.ext.setCell h.p0 _, owns_keepT h.own (keep_set w Pk d _) (TX.one h.row) (by decide), h.box.far (h.box.ne_ h.row (by decide)) _, by have := h.row.set_ d (.int .i64 i); simpa [List.map_set] using this, by rw [List.length_set]; exact h.plen, h.s0, h.p0⟩
theorem RfS.wish (h : RfS w0 w Sb Pk sa sc t xs v pick) (hw : WishesC w0 t xs) : Wishes w (.slice sa t.length sc) t := wishes_of_rowK h.own (hw.ext h.ext)
theorem RfS.at_ (h : RfS w0 w Sb Pk sa sc t xs v pick) {j : Nat} {z : Int} (hz : pick[j]? = some z) : w.cell? ⟨Pk, j, none⟩ = some (.int .i64 z) := by
 rw [h.row.cell]; simp [hz]
end
set_option maxHeartbeats 3200000 in
set_option maxRecDepth 100000 in
theorem rClashes_calls (w0 w : World) (Sb Pk : Nat) (sa : Option Addr) (sc : Nat) (t : List WishD) (xs : List Value) (v : Nat) (pick : List Int) (d : Nat) (hw : WishesC w0 t xs) (hv : validT t = 0) (hl : t.length ≤ 512) (hS : RfS w0 w Sb Pk sa sc t xs v pick)
  (hd : ∀ j, j ≤ d → (optOf t pick j).isSome) (hdl : d < t.length) :
  Calls Tryz.prog 82 #[.pointer (some ⟨Sb, 0, none⟩), .int .i64 d] w fun e w' => e = .returned (.bool (decide (0 ≤ earlierI t pick d))) ∧ Ext w w' := by
 have hw' := Lib.hid hw
 have hS' := Lib.hid hS
 have hd' := Lib.hid hd
 obtain ⟨R, hR⟩ : ∃ R, Hid (decide (0 ≤ earlierI t pick d) = R) := ⟨_, rfl⟩
 have hRa : Hid (R = (List.range d).any fun i => clashAt t pick i d) := Lib.hid (by rw [← hR.out]; exact findI_ge _ _)
 rw [hR.out]
 clear hw hS hd hR
 go_enter Tryz.func82, Tryz.ntmps82
 go_wp2_with fail
 go_loopw [5] (fun vi wr => ∃ k : Nat, k ≤ d ∧ vi = .int .i64 k ∧ Hid (Ext w wr) ∧ Hid (∀ j, j < k → clashAt t pick j d = false)) (fun vi _ => d - (intOf vi).toNat)
 case atStart => exact ⟨0, Nat.zero_le _, rfl, Lib.hid (Ext.refl _), Lib.hid fun j hj => by omega⟩
 case round =>
  obtain ⟨k, hk, rfl, hx, hF⟩ := hrel
  by_cases k1 : k < d
  ·have hSr := Lib.hid (hS'.out.toExt hx.out)
   obtain ⟨a, ha⟩ : ∃ a, Hid (pick[k]? = some a) := ⟨_, Lib.hid (List.getElem?_eq_getElem (by rw [hS'.out.plen]; omega))⟩
   obtain ⟨b, hb⟩ : ∃ b, Hid (pick[d]? = some b) := ⟨_, Lib.hid (List.getElem?_eq_getElem (by rw [hS'.out.plen]; omega))⟩
   obtain ⟨c, hc⟩ : ∃ c, Hid (clashAt t pick k d = c) := ⟨_, rfl⟩
   have hcl : Hid (∀ W, Ext wr W → Calls Tryz.prog 69 #[.agg #[.slice sa t.length sc], .agg #[.int .i64 k, .int .i64 a], .agg #[.int .i64 d, .int .i64 b]] W fun e w' => e = .returned (.bool c) ∧ Ext W w') := Lib.hid fun W hW => by
    have := rMeets_calls (.slice sa t.length sc) t k a d b W ((hSr.out.wish hw'.out).ext hW) hv
    rwa [clashT_at hv ha.out hb.out (by omega) (hd'.out k (by omega)) (hd'.out d (by omega)), hc.out] at this
   have z0 := After.cell (show wr.cell? ⟨Sb, 0, none⟩ = some (.slice sa t.length sc) from hSr.out.box.cell 0)
   have z1 := After.cell (show wr.cell? ⟨Sb, 1, none⟩ = some (.slice (some ⟨Pk, 0, none⟩) t.length t.length) from hSr.out.box.cell 1)
   have z2 := After.cell (hSr.out.at_ ha.out)
   have z3 := After.cell (hSr.out.at_ hb.out)
   clear hSr ha hb
   go_upto_region 4 with (fail)
   refine wp_region_after (by kernel_rfl) (by kernel_rfl) ?_
   repeat (go_big_quiet_step (exact After.call _ (hcl.out _ (After.ext _))))
   refine wpQuiet_nil ?_
   rintro _ ⟨u, rfl⟩
   have hu := Lib.hid (hx.out.trans u.ext)
   generalize u.world = V at hu ⊢
   clear z0 z1 z2 z3 hcl hx
   cases c with
   | true =>
    have Rt : Hid (R = true) := Lib.hid (by rw [hRa.out, List.any_eq_true]; exact ⟨k, List.mem_range.2 k1, hc.out⟩)
    go_wp2
    go_ret
    rw [Rt.out]
    exact ⟨rfl, hu.out⟩
   | false =>
    have N : Hid (∀ j, j < k + 1 → clashAt t pick j d = false) := Lib.hid fun j hj => by
     by_cases e : j = k
     ·rw [e]; exact hc.out
     ·exact hF.out j (by omega)
    clear hc hF
    go_wp2
    go_roundw
    case rel => exact ⟨k + 1, k1, by go_num, hu, N⟩
    case measure => simp [intOf]; omega
  ·have Rf : Hid (R = false) := Lib.hid (by rw [hRa.out, List.any_eq_false]; intro j hj; rw [hF.out j (by have := List.mem_range.1 hj; omega)]; exact Bool.false_ne_true)
   clear hF
   go_wp2
   go_ret
   rw [Rf.out]
   exact ⟨rfl, hx.out⟩
set_option maxHeartbeats 6400000 in
set_option maxRecDepth 100000 in
theorem rFrom_calls (w0 : World) (Sb Pk : Nat) (sa : Option Addr) (sc : Nat) (t : List WishD) (xs : List Value) (hw : WishesC w0 t xs) (hv0 : t ≠ [] → validT t = 0) (hl : t.length ≤ 512) :
  ∀ (r : List WishD) (w : World) (v : Nat) (pick pre : List Int), RfS w0 w Sb Pk sa sc t xs v pick → pick.take pre.length = pre → t.drop pre.length = r → pre.length ≤ t.length → (∀ j, j < pre.length → (optOf t pre j).isSome) → v ≤ 65536 →
  Calls Tryz.prog 60 #[.pointer (some ⟨Sb, 0, none⟩), .int .i64 pre.length] w fun e w' =>
   ∃ pick', e = .returned (.bool (standF t r pre v).1) ∧ RfS w0 w' Sb Pk sa sc t xs (standF t r pre v).2 pick' ∧ pick'.take pre.length = pre := by
 intro r
 induction r with
 | nil =>
  intro w v pick pre hS htk hdr hle _ hv
  have hlen : pre.length = t.length := by
   have := congrArg List.length hdr
   simp at this
   omega
  have c1 : w.cell? ⟨Sb, 0, none⟩ = some (.slice sa t.length sc) := hS.box.cell 0
  have d1 : ((pre.length : Int) == (t.length : Int)) = true := by simp [hlen]
  have hS' := Lib.hid hS
  have htk' := Lib.hid htk
  have b1 := hS.box.lt
  clear hS htk hlen hdr
  go_enter Tryz.func60, Tryz.ntmps60
  go_wp2
  go_ret
  exact ⟨pick, rfl, hS'.out, htk'.out⟩
 | cons x r ih =>
  intro w v pick pre hS htk hdr hle hop hv
  obtain ⟨hx, hdr2, hlt⟩ := drop_tail hdr
  have hrl : r.length ≤ 512 := by
   have := congrArg List.length hdr2
   simp at this
   omega
  have hval : validT t = 0 := hv0 (by intro e; rw [e] at hlt; simp at hlt)
  obtain ⟨sa', sc', e1, hn, hc, hat⟩ := (hS.wish hw).open
  cases e1
  obtain ⟨b1, o1, x', xa, xc, oa, oc, rfl, hb1, _, ex, g1, g2, g3, gp, go⟩ := hat pre.length hlt w (Ext.refl _)
  obtain rfl : x = x' := Option.some.inj (hx.symm.trans ex.out)
  have c2 : w.cell? ⟨Sb, 0, none⟩ = some (.slice (some ⟨b1, o1, none⟩) t.length sc) := hS.box.cell 0
  have l2 := hS.box.lt
  have d1 : ((pre.length : Int) == (t.length : Int)) = false := by simp; omega
  obtain ⟨res, hres⟩ : ∃ res, Hid (standF t (x :: r) pre v = res) := ⟨_, rfl⟩
  have hS' := Lib.hid hS
  have htk' := Lib.hid htk
  have hdr' := Lib.hid hdr2
  have hop' := Lib.hid hop
  have hx' := Lib.hid hx
  have ih' := Lib.hid ih
  have hw' := Lib.hid hw
  have hol := go.len
  have hval' := Lib.hid hval
  clear hS htk hdr hdr2 hop hx ih gp go ex hat hw hval hv0 hn hc
  rw [hres.out]
  go_enter Tryz.func60, Tryz.ntmps60
  go_wp2_with fail
  clear c2 l2 g1 g2 g3 hb1
  go_loopw [5] (fun vi wr => ∃ (i v' : Nat) (pick' : List Int), i ≤ x.opts.length ∧ vi = .int .i64 i ∧ v' ≤ 65536 + r.length ∧ Hid (res = standO (standG t r pre) (x.opts.drop i) i v') ∧ Hid (RfS w0 wr Sb Pk (some ⟨b1, o1, none⟩) sc t xs v' pick') ∧ Hid (pick'.take pre.length = pre)) (fun vi _ => x.opts.length - (intOf vi).toNat)
  case atStart => exact ⟨0, v, pick, by omega, rfl, by omega, Lib.hid (by rw [← hres.out]; rfl), hS', htk'⟩
  case round =>
   clear hS' htk' hres
   obtain ⟨i, v', pick', hi, rfl, hv', hR, hS, htk⟩ := hrel
   obtain ⟨_, _, e1, _, _, hat⟩ := (hS.out.wish hw'.out).open
   cases e1
   obtain ⟨b2, o2, x', xa', xc', oa', oc', e2, hb2, _, ex, g1, g2, g3, gp, go⟩ := hat pre.length hlt wr (Ext.refl _)
   cases e2
   obtain rfl : x = x' := Option.some.inj (hx'.out.symm.trans ex.out)
   have c2 : wr.cell? ⟨Sb, 0, none⟩ = some (.slice (some ⟨b1, o1, none⟩) t.length sc) := hS.out.box.cell 0
   have l2 := hS.out.box.lt
   clear gp go ex g1 g2 hat
   by_cases h1 : i < x.opts.length
   ·obtain ⟨o, ho⟩ : ∃ o, x.opts.drop i = o :: x.opts.drop (i + 1) := ⟨_, List.drop_eq_getElem_cons h1⟩
    have hR2 : Hid (res = if 65536 < v' + 1 then (false, v' + 1) else if (standG t r pre i (v' + 1)).1 then (true, (standG t r pre i (v' + 1)).2) else standO (standG t r pre) (x.opts.drop (i + 1)) ((i : Int) + 1) (standG t r pre i (v' + 1)).2) := by
     show _ = _
     rw [hR.out, ho]
     rfl
    have c3 : wr.cell? ⟨Sb, 2, none⟩ = some (.int .i64 (v' : Int)) := hS.out.box.cell 2
    have f3 := hS.out.box.frozen 2
    clear hR ho
    by_cases k1 : 65536 < v' + 1
    ·have d2 : decide (65536 < (v' : Int) + 1) = true := decide_eq_true (by omega)
     have R : Hid (res = (false, v' + 1)) := by show _ = _; rw [hR2.out, if_pos k1]
     have hS2 := Lib.hid (hS.out.setV (v' + 1))
     rw [show ((v' + 1 : Nat) : Int) = (v' : Int) + 1 by omega] at hS2
     clear hR2 k1 hS
     go_wp2
     go_ret
     rw [R.out]
     exact ⟨pick', rfl, hS2.out, htk.out⟩
    ·have d2 : decide (65536 < (v' : Int) + 1) = false := decide_eq_false (by omega)
     have hR3 : Hid (res = if (standG t r pre i (v' + 1)).1 then (true, (standG t r pre i (v' + 1)).2) else standO (standG t r pre) (x.opts.drop (i + 1)) ((i : Int) + 1) (standG t r pre i (v' + 1)).2) := by show _ = _; rw [hR2.out, if_neg k1]
     have hpl : pre.length < pick'.length := by rw [hS.out.plen]; exact hlt
     have c4 : wr.cell? ⟨Sb, 1, none⟩ = some (.slice (some ⟨Pk, 0, none⟩) t.length t.length) := hS.out.box.cell 1
     obtain ⟨z, hz⟩ : ∃ z, pick'[pre.length]? = some z := ⟨_, List.getElem?_eq_getElem hpl⟩
     have c5 : wr.cell? ⟨Pk, pre.length, none⟩ = some (.int .i64 z) := hS.out.at_ hz
     have l5 := hS.out.row.lt
     have f5 := hS.out.row.frozen pre.length
     have n1 : Sb ≠ Pk := fun e => (hS.out.box.ne_ hS.out.row (by decide)) e
     clear hR2 hz
     go_upto_region 10 with (fail)
     refine wp_abs (S := fun W => Hid (RfS w0 W Sb Pk (some ⟨b1, o1, none⟩) sc t xs (v' + 1) (pick'.set pre.length i))) ?_ ?_
     ·have h9 := (hS.out.setV (v' + 1)).setP pre.length (i : Int)
      rw [show ((v' + 1 : Nat) : Int) = (v' : Int) + 1 by omega] at h9
      exact Lib.hid h9
     rintro W hS2
     obtain ⟨pk2, hpk⟩ : ∃ p, Hid (pick'.set pre.length (i : Int) = p) := ⟨_, rfl⟩
     have htk2 : Hid (pk2.take (pre.length + 1) = pre ++ [(i : Int)]) := by show _ = _; rw [← hpk.out]; exact pre_set htk.out hpl
     rw [hpk.out] at hS2
     clear c3 f3 d2 c4 c5 l5 f5 n1 hS htk hpl hpk c2 l2 g3 hb2
     have hop2 := Lib.hid (optOf_snoc hx'.out h1 hop'.out)
     obtain ⟨c, hc9⟩ : ∃ c, Hid (decide (0 ≤ earlierI t pk2 pre.length) = c) := ⟨_, rfl⟩
     have hG : Hid (standG t r pre i (v' + 1) = if c = true then (false, v' + 1) else standF t r (pre ++ [(i : Int)]) (v' + 1)) := by
      show _ = _
      unfold standG
      rw [lastClash_snoc htk2.out, ← hc9.out]
      simp only [decide_eq_true_eq]
     have hcl := rClashes_calls w0 W Sb Pk (some ⟨b1, o1, none⟩) sc t xs (v' + 1) pk2 pre.length hw'.out hval'.out hl hS2.out (fun j hj => by
      have h8 := hop2.out j (by simp; omega)
      rw [← htk2.out] at h8
      rwa [optOf_take (by omega)] at h8) hlt
     rw [hc9.out] at hcl
     have hcl' := Lib.hid hcl
     clear hcl
     go_wp2_with fail
     refine hcl'.out.mono ?_
     rintro e W2 ⟨rfl, hx2⟩
     have hS3 := Lib.hid (hS2.out.toExt hx2)
     clear hcl' hx2 hS2 hc9
     cases c with
     | true =>
      have R : Hid (res = standO (standG t r pre) (x.opts.drop (i + 1)) ((i : Int) + 1) (v' + 1)) := by
       show _ = _
       rw [hR3.out, hG.out, if_pos rfl]
       rfl
      have htk3 := Lib.hid (take_le htk2.out)
      clear hR3 hG hop2 htk2
      go_wp2
      go_roundw
      case rel => first | exact ⟨i + 1, v' + 1, pk2, h1, by go_num, by omega, R, hS3, htk3⟩ | ((repeat apply Exists.intro); exact ⟨⟨i + 1, v' + 1, pk2, h1, by go_num, by omega, R, hS3, htk3⟩, rfl⟩)
      case measure => simp [intOf]; omega
     | false =>
      have hR4 : Hid (res = if (standF t r (pre ++ [(i : Int)]) (v' + 1)).1 then (true, (standF t r (pre ++ [(i : Int)]) (v' + 1)).2) else standO (standG t r pre) (x.opts.drop (i + 1)) ((i : Int) + 1) (standF t r (pre ++ [(i : Int)]) (v' + 1)).2) := by
       show _ = _
       rw [hR3.out, hG.out, if_neg Bool.false_ne_true]
      have hcall := ih'.out W2 (v' + 1) pk2 (pre ++ [(i : Int)]) hS3.out (by rw [List.length_append, List.length_singleton]; exact htk2.out) (by rw [List.length_append, List.length_singleton]; exact hdr'.out) (by rw [List.length_append, List.length_singleton]; exact hlt) hop2.out (by omega)
      have hbd := standF_bd t r (pre ++ [(i : Int)]) (v' + 1) (by omega)
      obtain ⟨q, v2, hq⟩ : ∃ q v2, Hid (standF t r (pre ++ [(i : Int)]) (v' + 1) = (q, v2)) := ⟨_, _, rfl⟩
      rw [List.length_append, List.length_singleton, hq.out] at hcall
      rw [hq.out] at hR4 hbd
      dsimp only at hcall hbd
      rw [show ((pre.length + 1 : Nat) : Int) = (pre.length : Int) + 1 by omega] at hcall
      have hcall' := Lib.hid hcall
      clear hR3 hG hop2 htk2 hq hcall hS3
      go_wp2_with fail
      refine hcall'.out.mono ?_
      rintro e W3 ⟨pk3, rfl, hS4, htk4⟩
      have hS5 := Lib.hid hS4
      have htk5 := Lib.hid (take_le htk4)
      clear hcall' hS4 htk4
      cases q with
      | true =>
       have R : Hid (res = (true, v2)) := by show _ = _; rw [hR4.out]; rfl
       clear hR4
       go_wp2
       go_ret
       rw [R.out]
       exact ⟨pk3, rfl, hS5.out, htk5.out⟩
      | false =>
       have R : Hid (res = standO (standG t r pre) (x.opts.drop (i + 1)) ((i : Int) + 1) v2) := by show _ = _; rw [hR4.out]; rfl
       clear hR4
       go_wp2
       go_roundw
       case rel => first | exact ⟨i + 1, v2, pk3, h1, by go_num, hbd, R, hS5, htk5⟩ | ((repeat apply Exists.intro); exact ⟨⟨i + 1, v2, pk3, h1, by go_num, hbd, R, hS5, htk5⟩, rfl⟩)
       case measure => simp [intOf]; omega
   ·have R : Hid (res = (false, v')) := by show _ = _; rw [hR.out, List.drop_eq_nil_of_le (by omega)]; rfl
    clear hR
    go_wp2
    go_ret
    rw [R.out]
    exact ⟨pick', rfl, hS.out, htk.out⟩
/-! ### stands -/
def RsCon (w0 : World) (s : List WishD) (k : Nat) (v : Value) (W : World) : Prop := k = 2 → ∃ sv xs, v = .agg #[sv] ∧ W.ownsRow w0.heap.size 52 3 sv s.length xs ∧ WishesC w0 s xs
set_option maxHeartbeats 3200000 in
set_option maxRecDepth 100000 in
theorem rstands_calls (wv lv : Value) (t : List WishD) (l : List Int) (w : World) (h : Wishes w wv t) (hl : Ints w lv l) (hsel : ∀ x ∈ l, idxB x t.length = true) (hlen : l.length ≤ 512) (hvs : subT t l ≠ [] → validT (subT t l) = 0) :
  Calls Tryz.prog 31 #[.agg #[wv], lv] w fun e w' => e = .returned (.tuple #[.bool (standsT t l).1, .int .i64 (standsT t l).2]) ∧ Ext w w' := by
 have hsub := Lib.hid fun (A W : World) (hA : Ext w A) (hW : Ext A W) => rSub_callsV wv lv t l A W (h.ext hA) hW (hl.ext (hA.trans hW)) hsel (by omega)
 obtain ⟨ta, tc, rfl, _⟩ := h.open
 obtain ⟨la, lc, rfl, _⟩ := hl.open
 obtain ⟨s, hs⟩ : ∃ s, Hid (subT t l = s) := ⟨_, rfl⟩
 have hsl : Hid (s.length = l.length) := by show _ = _; rw [← hs.out, sub_len]
 have hss : s ≠ [] → validT s = 0 := hs.out ▸ hvs
 have hmk := run_make_ints s.length (by rw [hsl.out]; omega)
 have hT : Hid (standsT t l = if 65536 < (standF s s [] 0).2 then (false, 2) else ((standF s s [] 0).1, 0)) := by show _ = _; unfold standsT standsS; rw [hs.out]
 have hbd := standF_bd s s [] 0 (by omega)
 obtain ⟨q, v, hq⟩ : ∃ q v, Hid (standF s s [] 0 = (q, v)) := ⟨_, _, rfl⟩
 rw [hq.out] at hT hbd
 dsimp only at hbd
 rw [hs.out] at hsub
 rw [← hsl.out] at hsub hlen ⊢
 clear h hl hsel hs hsl hvs
 go_enter Tryz.func31, Tryz.ntmps31
 go_upto_region 1 with (fail)
 obtain ⟨W0, hW0⟩ : ∃ W0, w.alloc (.cells #[.slice ta t.length tc] 27) = W0 := ⟨_, rfl⟩
 have hx0 : Hid (Ext w W0) := Lib.hid (by rw [← hW0]; exact (Ext.refl w).alloc _)
 have z0 := After.cell (show W0.cell? ⟨w.heap.size, 0, none⟩ = some (.slice ta t.length tc) by rw [← hW0]; exact (Blk.new _ _ _).cell 0)
 rw [hW0]
 clear hW0
 (refine wp_region_held [] [0, 1, 2, 3, 4, 5] [6, 7, 8] (RsCon W0 s) (by kernel_rfl) (by kernel_rfl) ?_; simp only [pickL]; with_reducible refine wpQuiet_nil ?_)
 (refine held_quiet [0, 1] [2, 3, 4, 5] (by kernel_rfl) (by kernel_rfl) ?_; simp only [pickL, List.drop]; (repeat (go_big_quiet_step (fail))); with_reducible refine wpQuiet_nil ?_)
 (refine held_call 2 [3, 4, 5] rfl (by kernel_rfl) 51 (#[.agg #[.slice ta t.length tc], .slice la s.length lc]) (fun W => by kernel_rfl) rfl ?_ ?_ ?_)
 ·exact fun W W' v e h hk => let ⟨sv, xs, a, b, c⟩ := h hk; ⟨sv, xs, a, owns_ext b e, c⟩
 ·refine fun W hW _ => (hsub.out W0 W hx0.out hW).mono ?_
  rintro e W' ⟨sv, xs, rfl, hsv, hxs, hx⟩
  exact ⟨_, rfl, hx, fun _ => ⟨sv, xs, rfl, owns_base hsv hW.size, hxs⟩⟩
 rintro u ⟨Y, hY, hCv⟩
 obtain ⟨sv, xs, rfl, hsv, hxs0⟩ := hCv rfl
 obtain ⟨sa, sc, rfl⟩ := owns_form hsv
 clear hCv hY Y hsv hxs0 xs
 simp only [Act.put, List.setIfInBounds_toArray, List.set_cons_succ, List.set_cons_zero]
 (refine held_quiet [3, 4] [5] (by kernel_rfl) (by kernel_rfl) ?_; simp only [pickL, List.drop]; (repeat (go_big_quiet_step (fail))); with_reducible refine wpQuiet_nil ?_)
 refine held_made 5 [] rfl (by kernel_rfl) (fun g => .slice (some ⟨g, 0, none⟩) s.length s.length) (.cells (zerosV s.length) 3) (fun W => by simp [execOp, go_sem, hmk W]) (fun g g2 e => by cases e; rfl) (fun g => rfl) ?_
 intro gp
 simp only [Act.put, List.setIfInBounds_toArray, List.set_cons_succ, List.set_cons_zero]
 intro V hxV hfc htk Q0 hQ0
 have h5 := (hfc 5).2 rfl
 obtain ⟨_, xs, e9, hOw, hWx⟩ := (hfc 2).1.2 rfl rfl
 cases e9
 have bp : Blk V gp 3 (zerosV s.length) := h5.1
 have hgp : W0.heap.size ≤ gp := h5.2
 have hOw' := Lib.hid hOw
 have hWx' := Lib.hid hWx
 have hbp := Lib.hid bp
 have hxV' := Lib.hid hxV
 have hlt := bp.lt
 simp only [pickL, List.drop]
 clear hfc htk h5 bp hOw hWx z0 hxV hmk hsub
 go_upto_region 2 with (fail)
 have e9 : (zerosL s.length).length = s.length := zerosL_len _
 refine wp_abs (S := fun W => Hid (RfS W0 W V.heap.size gp sa sc s xs 0 (zerosL s.length))) ?_ ?_
 ·refine Lib.hid ⟨hxV'.out.alloc _, hOw'.out.alloc _, blk_new' rfl rfl, Blk.alloc ?_ _, e9, hxV'.out.size, hgp⟩
  exact hbp.out
 rintro W2 hS
 have hcall := rFrom_calls W0 V.heap.size gp sa sc s xs hWx'.out hss hlen s W2 0 (zerosL s.length) [] hS.out rfl rfl (by simp) (fun j hj => by simp at hj) (by omega)
 rw [hq.out] at hcall
 dsimp only [List.length_nil] at hcall
 have hcall' := Lib.hid hcall
 clear hcall hS hq hbp hOw' hlt hgp
 go_wp2_with fail
 refine hcall'.out.mono ?_
 rintro e W3 ⟨pk3, rfl, hS4, _⟩
 have hE5 := Lib.hid (hx0.out.trans hS4.ext)
 have c6 : W3.cell? ⟨V.heap.size, 2, none⟩ = some (.int .i64 (v : Int)) := hS4.box.cell 2
 have l6 : V.heap.size < W3.heap.size := hS4.box.lt
 clear hcall' hS4
 by_cases h1 : 65536 < v
 ·have d1 : decide (65536 < (v : Int)) = true := decide_eq_true (by omega)
  have R : Hid (standsT t l = (false, 2)) := by show _ = _; rw [hT.out, if_pos h1]
  go_wp2
  go_ret2
  rw [R.out]
  exact ⟨rfl, hE5.out⟩
 ·have d1 : decide (65536 < (v : Int)) = false := decide_eq_false (by omega)
  have R : Hid (standsT t l = (q, 0)) := by show _ = _; rw [hT.out, if_neg h1]
  go_wp2
  go_ret2
  rw [R.out]
  exact ⟨rfl, hE5.out⟩
end Go.Proofs.YtjglidlmpjmjeaaGreatDoor

/- Walks of the reference of cores: Stands, Of. -/
namespace Go.Proofs.YtjglidlmpjmjeaaGreatDoor
open Go.RowKit List

theorem sub_ne {t : List WishD} {l : List Int} (h : subT t l ≠ []) : l ≠ [] := fun e => h (by rw [e]; rfl)
set_option maxHeartbeats 1600000 in
theorem rStands_calls (wv lv : Value) (t : List WishD) (l : List Int) (w : World) (h : Wishes w wv t) (hl : Ints w lv l) :
  Calls Tryz.prog 13 #[.agg #[wv], lv] w fun e w' => e = .returned (.tuple #[.bool (StandsT t l).1, .int .i64 (StandsT t l).2]) ∧ Ext w w' := by
 have hT := Lib.hid h
 have hL := Lib.hid hl
 obtain ⟨ta, tc, rfl⟩ := h.form
 obtain ⟨la, lc, rfl⟩ := hl.form
 clear h hl
 obtain ⟨z, hz⟩ : ∃ z, Hid (validT t = z) := ⟨_, rfl⟩
 have hv : Hid (∀ W, Ext w W → Calls Tryz.prog 29 #[.agg #[.slice ta t.length tc]] W fun e w' => e = .returned (.int .i64 z) ∧ Ext W w') := fun W hW => hz.out ▸ rValid_calls _ t W (hT.out.ext hW)
 by_cases h0 : z = 0
 ·have d0 : (z != 0) = false := by simp [h0]
  have hz0 : validT t = 0 := by rw [hz.out, h0]
  have h512 := tooLarge_len (validT_ok hz0).1
  obtain ⟨b, hb⟩ : ∃ b, Hid (selB t.length (-1) l = b) := ⟨_, rfl⟩
  have hsel : Hid (∀ W, Ext w W → Calls Tryz.prog 42 #[.agg #[.slice ta t.length tc], .slice la l.length lc] W fun e w' => e = .returned (.bool b) ∧ Ext W w') := fun W hW => hb.out ▸ rSelection_calls _ _ t l W (hT.out.ext hW) (hL.out.ext hW)
  cases b with
  | true =>
   have hs := selB_iff.1 hb.out
   have hck : checkI t l = 0 := by unfold checkI; rw [if_pos hz0, hb.out]; rfl
   have hst : Hid (∀ W, Ext w W → Calls Tryz.prog 31 #[.agg #[.slice ta t.length tc], .slice la l.length lc] W fun e w' => e = .returned (.tuple #[.bool (standsT t l).1, .int .i64 (standsT t l).2]) ∧ Ext W w') := fun W hW => rstands_calls _ _ t l W (hT.out.ext hW) (hL.out.ext hW) (up_idx hs) (by have := up_len hs; omega) fun hn => subT_valid hz0 hs (sub_ne hn)
   have R : Hid (StandsT t l = standsT t l) := if_pos hck
   obtain ⟨q1, q2, hq⟩ : ∃ a b, Hid (standsT t l = (a, b)) := ⟨_, _, rfl⟩
   rw [hq.out] at hst R
   clear hz hz0 h0 hs hck hb h512
   go_enter Tryz.func13, Tryz.ntmps13
   go_wp2_with fail
   refine (hv.out _ (by with_reducible repeat' (first | exact Ext.refl _ | assumption | refine Ext.drewN ?_ _ | refine Ext.drew ?_ | refine Ext.alloc ?_ _ | refine Ext.trans ?_ (by with_reducible assumption)))).mono ?_
   rintro e w1 ⟨rfl, hx1⟩
   have c0 : w1.cell? ⟨w.heap.size, 0, none⟩ = some (.slice ta t.length tc) := hx1.cell (by simp)
   have l0 := World.block_lt_of_cell? _ _ c0
   have hE1 := Lib.hid (((Ext.refl w).alloc (.cells #[.slice ta t.length tc] 27)).trans hx1)
   clear hx1 hv
   go_wp2_with fail
   refine (hsel.out _ hE1.out).mono ?_
   rintro e w2 ⟨rfl, hx2⟩
   replace c0 := hx2.cell c0
   replace l0 := World.block_lt_of_cell? _ _ c0
   have hE2 := Lib.hid (hE1.out.trans hx2)
   clear hx2 hsel hE1
   go_wp2_with fail
   refine (hst.out _ hE2.out).mono ?_
   rintro e w3 ⟨rfl, hx3⟩
   go_wp2
   go_ret2
   rw [R.out]
   exact ⟨rfl, hE2.out.trans hx3⟩
  | false =>
   have R : Hid (StandsT t l = (false, 1)) := by
    show _ = _
    have hck : checkI t l = 1 := by unfold checkI; rw [if_pos hz0, hb.out]; rfl
    unfold StandsT
    rw [hck]
    rfl
   clear hz hz0 h0 hb h512
   go_enter Tryz.func13, Tryz.ntmps13
   go_wp2_with fail
   refine (hv.out _ (by with_reducible repeat' (first | exact Ext.refl _ | assumption | refine Ext.drewN ?_ _ | refine Ext.drew ?_ | refine Ext.alloc ?_ _ | refine Ext.trans ?_ (by with_reducible assumption)))).mono ?_
   rintro e w1 ⟨rfl, hx1⟩
   have c0 : w1.cell? ⟨w.heap.size, 0, none⟩ = some (.slice ta t.length tc) := hx1.cell (by simp)
   have l0 := World.block_lt_of_cell? _ _ c0
   have hE1 := Lib.hid (((Ext.refl w).alloc (.cells #[.slice ta t.length tc] 27)).trans hx1)
   clear hx1 hv
   go_wp2_with fail
   refine (hsel.out _ hE1.out).mono ?_
   rintro e w2 ⟨rfl, hx2⟩
   replace c0 := hx2.cell c0
   replace l0 := World.block_lt_of_cell? _ _ c0
   have hE2 := Lib.hid (hE1.out.trans hx2)
   clear hx2 hsel hE1
   go_wp2
   go_ret2
   rw [R.out]
   exact ⟨rfl, hE2.out⟩
 ·have d0 : (z != 0) = true := by simp [h0]
  have R : Hid (StandsT t l = (false, z)) := by
   show _ = _
   have hck : checkI t l = z := by unfold checkI; rw [if_neg (by rw [hz.out]; exact h0), hz.out]
   unfold StandsT
   rw [hck, if_neg h0]
  clear hz h0
  go_enter Tryz.func13, Tryz.ntmps13
  go_wp2_with fail
  refine (hv.out _ (by with_reducible repeat' (first | exact Ext.refl _ | assumption | refine Ext.drewN ?_ _ | refine Ext.drew ?_ | refine Ext.alloc ?_ _ | refine Ext.trans ?_ (by with_reducible assumption)))).mono ?_
  rintro e w1 ⟨rfl, hx1⟩
  have c0 : w1.cell? ⟨w.heap.size, 0, none⟩ = some (.slice ta t.length tc) := hx1.cell (by simp)
  have l0 := World.block_lt_of_cell? _ _ c0
  have hE1 := Lib.hid (((Ext.refl w).alloc (.cells #[.slice ta t.length tc] 27)).trans hx1)
  clear hx1 hv
  go_wp2
  go_ret2
  rw [R.out]
  exact ⟨rfl, hE1.out⟩
set_option maxHeartbeats 3200000 in
set_option maxRecDepth 100000 in
theorem rOf_calls (wv : Value) (t : List WishD) (w : World) (h : Wishes w wv t) :
  Calls Tryz.prog 9 #[.agg #[wv]] w fun e w' => ∃ v, e = .returned (.tuple #[v, .bool (ofT t).2.1, .int .i64 (ofT t).2.2]) ∧ Ints w' v (ofT t).1 ∧ Ext w w' := by
 have hT := Lib.hid h
 obtain ⟨ta, tc, rfl, htn, htc, _⟩ := h.open
 clear h
 obtain ⟨z, hz⟩ : ∃ z, Hid (validT t = z) := ⟨_, rfl⟩
 have hv : Hid (∀ W, Ext w W → Calls Tryz.prog 29 #[.agg #[.slice ta t.length tc]] W fun e w' => e = .returned (.int .i64 z) ∧ Ext W w') := fun W hW => hz.out ▸ rValid_calls _ t W (hT.out.ext hW)
 by_cases h0 : z = 0
 ·have d0 : (z != 0) = false := by simp [h0]
  have hv0 : validT t = 0 := by rw [hz.out, h0]
  have h512 := tooLarge_len (validT_ok hv0).1
  have hst : Hid (∀ (W : World) (v : Value) (l : List Int), Ext w W → Ints W v l → l <+ upI t.length → Calls Tryz.prog 31 #[.agg #[.slice ta t.length tc], v] W fun e w' => e = .returned (.tuple #[.bool (standsT t l).1, .int .i64 (standsT t l).2]) ∧ Ext W w') := fun W v l hW hl hs => rstands_calls _ _ t l W (hT.out.ext hW) hl (up_idx hs) (by have := up_len hs; omega) fun hn => subT_valid hv0 hs (sub_ne hn)
  obtain ⟨U, hU⟩ : ∃ U, Hid (upI t.length = U) := ⟨_, rfl⟩
  have hUl : Hid (U.length = t.length) := Lib.hid (by rw [← hU.out, upI_len])
  have hU5 : U.length ≤ 512 := by rw [hUl.out]; exact h512
  have hR : Hid (ofT t = if (standsT t U).1 = true ∨ (standsT t U).2 ≠ 0 then ([], false, (standsT t U).2) else ofLoop t U.length U) := by
   show _ = _
   rw [hUl.out, ← hU.out]
   exact if_pos hv0
  have hUs : Hid (U <+ upI t.length) := Lib.hid (by rw [hU.out]; exact List.Sublist.refl _)
  clear hz hv0 h0
  go_enter Tryz.func9, Tryz.ntmps9
  go_wp2_with fail
  refine (hv.out _ (by with_reducible repeat' (first | exact Ext.refl _ | assumption | refine Ext.drewN ?_ _ | refine Ext.drew ?_ | refine Ext.alloc ?_ _ | refine Ext.trans ?_ (by with_reducible assumption)))).mono ?_
  rintro e w1 ⟨rfl, hx1⟩
  have hB1 : Hid (Blk w1 w.heap.size 27 #[.slice ta t.length tc]) := Lib.hid ((Keep.of_ext (X := fun _ => False) hx1).blk (blk_new' rfl rfl) id)
  have hE1 := Lib.hid (((Ext.refl w).alloc (.cells #[.slice ta t.length tc] 27)).trans hx1)
  clear hx1 hv
  have c0 : w1.cell? ⟨w.heap.size, 0, none⟩ = some (.slice ta t.length tc) := hB1.out.cell 0
  have l0 := hB1.out.lt
  go_wp2_with fail
  refine (rEvery_calls t.length w1 (by omega)).mono ?_
  rw [hU.out]
  rintro e w2 ⟨uv, rfl, hO, hx⟩
  have hL := Lib.hid hO.read
  obtain ⟨A, C, rfl⟩ := hO.read.form
  have hB := Lib.hid ((Keep.of_ext (X := fun _ => False) hx).blk hB1.out id)
  have hE := Lib.hid (hE1.out.trans hx)
  clear c0 l0 hO hx hB1 hE1
  have hst1 := Lib.hid (hst.out w2 _ _ hE.out hL.out hUs.out)
  obtain ⟨q, e, hq⟩ : ∃ q e, Hid (standsT t U = (q, e)) := ⟨_, _, rfl⟩
  rw [hq.out] at hst1 hR
  have c0 : w2.cell? ⟨w.heap.size, 0, none⟩ = some (.slice ta t.length tc) := hB.out.cell 0
  have l0 := hB.out.lt
  clear hq
  go_wp2_with fail
  refine hst1.out.mono ?_
  rintro e' w3 ⟨rfl, hx2⟩
  have hB2 := Lib.hid ((Keep.of_ext (X := fun _ => False) hx2).blk hB.out id)
  have hL2 := Lib.hid (hL.out.ext hx2)
  have hE2 := Lib.hid (hE.out.trans hx2)
  clear hst1 c0 l0 hx2 hB hL hE
  (try dsimp only at hR)
  by_cases he : e = 0
  ·have d3 : (e != 0) = false := by simp [he]
   cases q with
   | true =>
    have R : Hid (ofT t = ([], false, 0)) := by show _ = _; rw [hR.out, if_pos (Or.inl rfl), he]
    clear hR
    go_wp2
    refine bodyPost_ret (v := .tuple #[.slice none 0 0, .bool false, .int .i64 0]) (by simp [results, Tryz.results9, go_sem]) rfl ?_
    rw [R.out]
    exact ⟨_, rfl, ints_nilK _, hE2.out⟩
   | false =>
    have hR2 : Hid (ofT t = ofLoop t U.length U) := by show _ = _; rw [hR.out, if_neg (by simp [he])]
    clear hR he
    go_wp2_with fail
    rename World => wL
    go_loopw [6, 9, 10, 7, 8] (fun v6 vi _ _ _ wr => ∃ (j : Nat) (L : List Int), j ≤ L.length ∧ L.length ≤ 512 ∧ vi = .int .i64 ((j : Int) - 1) ∧ Hid (Ints wr v6 L) ∧ Hid (L <+ upI t.length) ∧ Hid (ofT t = ofLoop t j L) ∧ Hid (Blk wr w.heap.size 27 #[.slice ta t.length tc]) ∧ Hid (Ext w wr)) (fun _ vi _ _ _ _ => (intOf vi + 1).toNat)
    case atStart => exact ⟨U.length, U, Nat.le_refl _, hU5, rfl, hL2, hUs, hR2, hB2, hE2⟩
    case round =>
     clear hL2 hR2 hB2 hE2
     obtain ⟨j, L, hj, hL5, rfl, hL, hid, hR, hB, hE⟩ := hrel
     obtain ⟨LA, LC, rfl⟩ := hL.out.form
     by_cases hj0' : j = 0
     ·subst hj0'
      have R : Hid (ofT t = (L, true, 0)) := hR.out
      clear hR hid
      go_wp2
      refine bodyPost_ret (v := .tuple #[.slice LA L.length LC, .bool true, .int .i64 0]) (by simp [results, Tryz.results9, go_sem]) rfl ?_
      rw [R.out]
      exact ⟨_, rfl, hL.out, hE.out⟩
     ·obtain ⟨k, rfl⟩ : ∃ k, j = k + 1 := ⟨j - 1, by omega⟩
      have e1 : ((k + 1 : Nat) : Int) - 1 = (k : Int) := by omega
      rw [e1]
      have d4 : decide (0 ≤ (k : Int)) = true := decide_eq_true (by omega)
      clear e1 hj0'
      go_wp2_with fail
      refine (rWithout_calls _ L k wr hL.out (by omega)).mono ?_
      rintro e' w4 ⟨rv, rfl, hr0, hx3⟩
      have hr := hr0.read
      obtain ⟨RA, RC, rfl⟩ := hr.form
      obtain ⟨M, hM⟩ : ∃ M, Hid (L.eraseIdx k = M) := ⟨_, rfl⟩
      have hrl1 : M.length ≤ 512 ∧ k ≤ M.length := by rw [← hM.out, List.length_eraseIdx, if_pos (by omega)]; omega
      obtain ⟨hrl1, hrl2⟩ := hrl1
      have hid2 : Hid (M <+ upI t.length) := Lib.hid (hM.out ▸ (List.eraseIdx_sublist L k).trans hid.out)
      rw [hM.out] at hr
      rw [hM.out]
      have hL3 := Lib.hid (hL.out.ext hx3)
      have hB3 := Lib.hid ((Keep.of_ext (X := fun _ => False) hx3).blk hB.out id)
      have hE3 := Lib.hid (hE.out.trans hx3)
      have hst2 := Lib.hid (hst.out w4 _ _ hE3.out hr hid2.out)
      have hR3 : Hid (ofT t = if (standsT t M).2 ≠ 0 then ([], false, (standsT t M).2) else ofLoop t k (if (standsT t M).1 then L else M)) := by rw [← hM.out]; exact hR.out
      obtain ⟨q, e, hq⟩ : ∃ q e, Hid (standsT t M = (q, e)) := ⟨_, _, rfl⟩
      rw [hq.out] at hst2 hR3
      have hr3 := Lib.hid hr
      have c0 : w4.cell? ⟨w.heap.size, 0, none⟩ = some (.slice ta t.length tc) := hB3.out.cell 0
      have l0 := hB3.out.lt
      clear hq hr hr0 hx3 hL hB hE hR hM
      go_wp2_with fail
      refine hst2.out.mono ?_
      rintro e' w5 ⟨rfl, hx4⟩
      have hL4 := Lib.hid (hL3.out.ext hx4)
      have hr4 := Lib.hid (hr3.out.ext hx4)
      have hB4 := Lib.hid ((Keep.of_ext (X := fun _ => False) hx4).blk hB3.out id)
      have hE4 := Lib.hid (hE3.out.trans hx4)
      clear hst2 c0 l0 hx4 hL3 hr3 hB3 hE3
      (try dsimp only at hR3)
      by_cases he : e = 0
      ·have d5 : (e != 0) = false := by simp [he]
       rw [he] at hR3
       cases q with
       | true =>
        have R : Hid (ofT t = ofLoop t k L) := by show _ = _; rw [hR3.out]; rfl
        clear hR3 he hid2 hr4
        go_wp2
        go_roundw
        case rel => first | exact ⟨k, L, by omega, hL5, rfl, hL4, hid, R, hB4, hE4⟩ | ((repeat apply Exists.intro); exact ⟨⟨k, L, by omega, hL5, rfl, hL4, hid, R, hB4, hE4⟩, rfl⟩)
        case measure => simp [intOf] <;> omega
       | false =>
        have R : Hid (ofT t = ofLoop t k M) := by show _ = _; rw [hR3.out]; rfl
        clear hR3 he hid hL4
        go_wp2
        go_roundw
        case rel => first | exact ⟨k, M, hrl2, hrl1, rfl, hr4, hid2, R, hB4, hE4⟩ | ((repeat apply Exists.intro); exact ⟨⟨k, M, hrl2, hrl1, rfl, hr4, hid2, R, hB4, hE4⟩, rfl⟩)
        case measure => simp [intOf] <;> omega
      ·have d5 : (e != 0) = true := by simp [he]
       have R : Hid (ofT t = ([], false, e)) := by show _ = _; rw [hR3.out, if_pos he]
       clear hR3 he hid hid2 hr4 hL4
       go_wp2
       refine bodyPost_ret (v := .tuple #[.slice none 0 0, .bool false, .int .i64 e]) (by simp [results, Tryz.results9, go_sem]) rfl ?_
       rw [R.out]
       exact ⟨_, rfl, ints_nilK _, hE4.out⟩
  ·have d3 : (e != 0) = true := by simp [he]
   have R : Hid (ofT t = ([], false, e)) := by show _ = _; rw [hR.out, if_pos (Or.inr he)]
   clear hR he
   go_wp2
   refine bodyPost_ret (v := .tuple #[.slice none 0 0, .bool false, .int .i64 e]) (by simp [results, Tryz.results9, go_sem]) rfl ?_
   rw [R.out]
   exact ⟨_, rfl, ints_nilK _, hE2.out⟩
 ·have d0 : (z != 0) = true := by simp [h0]
  have R : Hid (ofT t = ([], false, z)) := by show _ = _; unfold ofT; rw [if_neg (by rw [hz.out]; exact h0), hz.out]
  clear hz h0
  go_enter Tryz.func9, Tryz.ntmps9
  go_wp2_with fail
  refine (hv.out _ (by with_reducible repeat' (first | exact Ext.refl _ | assumption | refine Ext.drewN ?_ _ | refine Ext.drew ?_ | refine Ext.alloc ?_ _ | refine Ext.trans ?_ (by with_reducible assumption)))).mono ?_
  rintro e w1 ⟨rfl, hx1⟩
  have hB1 : Hid (Blk w1 w.heap.size 27 #[.slice ta t.length tc]) := Lib.hid ((Keep.of_ext (X := fun _ => False) hx1).blk (blk_new' rfl rfl) id)
  have hE1 := Lib.hid (((Ext.refl w).alloc (.cells #[.slice ta t.length tc] 27)).trans hx1)
  clear hx1 hv
  go_wp2
  refine bodyPost_ret (v := .tuple #[.slice none 0 0, .bool false, .int .i64 z]) (by simp [results, Tryz.results9, go_sem]) rfl ?_
  rw [R.out]
  exact ⟨_, rfl, ints_nilK _, hE1.out⟩
end Go.Proofs.YtjglidlmpjmjeaaGreatDoor

/- Walk of the reference of cores: Check, by a contract of the reference of plan's Check (the rounds are printed by mkvb.py from KF). -/
namespace Go.Proofs.YtjglidlmpjmjeaaGreatDoor
open Go.RowKit List

set_option maxHeartbeats 3200000 in
set_option maxRecDepth 100000 in
theorem rCheckH_calls (wv lv : Value) (ca : Option Addr) (cn cc : Nat) (t : List WishD) (l : List Int) (c : List NodeD) (w : World) (h : Wishes w wv t) (hl : Ints w lv l)
  (h33 : ∀ (W : World) (v : Value), Ext w W → Wishes W v (subT t l) → Calls Tryz.prog 53 #[.agg #[v], .int .i64 1000000000, .slice ca cn cc] W fun e w' => e = .returned (.int .i64 (checkT (subT t l) 1000000000 c)) ∧ Ext W w') :
  Calls Tryz.prog 23 #[.agg #[wv], lv, .slice ca cn cc] w fun e w' => e = .returned (.int .i64 (coreCheckT t l c)) ∧ Ext w w' := by
 have hT := Lib.hid h
 have hL := Lib.hid hl
 have h33' := Lib.hid h33
 obtain ⟨ta, tc, rfl⟩ := h.form
 obtain ⟨la, lc, rfl⟩ := hl.form
 have hll := hl.len
 clear h hl h33
 obtain ⟨z, hz⟩ : ∃ z, Hid (validT t = z) := ⟨_, rfl⟩
 have hv : Hid (∀ W, Ext w W → Calls Tryz.prog 29 #[.agg #[.slice ta t.length tc]] W fun e w' => e = .returned (.int .i64 z) ∧ Ext W w') := fun W hW => hz.out ▸ rValid_calls _ t W (hT.out.ext hW)
 by_cases h0 : z = 0
 ·have d0 : (z != 0) = false := by simp [h0]
  have hz0 : validT t = 0 := by rw [hz.out, h0]
  have hz9 := Lib.hid hz0
  have h512 := tooLarge_len (validT_ok hz0).1
  obtain ⟨b, hb⟩ : ∃ b, Hid (selB t.length (-1) l = b) := ⟨_, rfl⟩
  have hsel : Hid (∀ W, Ext w W → Calls Tryz.prog 42 #[.agg #[.slice ta t.length tc], .slice la l.length lc] W fun e w' => e = .returned (.bool b) ∧ Ext W w') := fun W hW => hb.out ▸ rSelection_calls _ _ t l W (hT.out.ext hW) (hL.out.ext hW)
  cases b with
  | false =>
   have R : Hid (coreCheckT t l c = 1) := by
    show _ = _
    have hck : checkI t l = 1 := by unfold checkI; rw [if_pos hz0, hb.out]; rfl
    unfold coreCheckT
    rw [hck]
    rfl
   clear hz hz0 h0 hb h512 h33'
   go_enter Tryz.func23, Tryz.ntmps23
   go_wp2_with fail
   refine (hv.out _ (by with_reducible repeat' (first | exact Ext.refl _ | assumption | refine Ext.drewN ?_ _ | refine Ext.drew ?_ | refine Ext.alloc ?_ _ | refine Ext.trans ?_ (by with_reducible assumption)))).mono ?_
   rintro e w1 ⟨rfl, hx1⟩
   have hB1 : Hid (Blk w1 w.heap.size 27 #[.slice ta t.length tc]) := Lib.hid ((Keep.of_ext (X := fun _ => False) hx1).blk (blk_new' rfl rfl) id)
   have hE1 := Lib.hid (((Ext.refl w).alloc (.cells #[.slice ta t.length tc] 27)).trans hx1)
   clear hx1 hv
   have c0 : w1.cell? ⟨w.heap.size, 0, none⟩ = some (.slice ta t.length tc) := hB1.out.cell 0
   have l0 := hB1.out.lt
   go_wp2_with fail
   refine (hsel.out _ hE1.out).mono ?_
   rintro e w1' ⟨rfl, hx2⟩
   have hBs := Lib.hid ((Keep.of_ext (X := fun _ => False) hx2).blk hB1.out id)
   have hEs := Lib.hid (hE1.out.trans hx2)
   clear hx2 hsel hE1 hB1 c0 l0
   go_wp2
   go_ret
   rw [R.out]
   exact ⟨rfl, hEs.out⟩
  | true =>
   have hsub := Lib.hid (selB_iff.1 hb.out)
   have h5 : l.length ≤ 512 := by have := up_len hsub.out; omega
   have hck : checkI t l = 0 := by unfold checkI; rw [if_pos hz0, hb.out]; rfl
   have hi' := Lib.hid (up_idx hsub.out)
   have hR0 : Hid (coreCheckT t l c = if l.length = 0 then 1 else if checkT (subT t l) 1000000000 c = 0 then lackI t l (List.range l.length) else checkT (subT t l) 1000000000 c) := if_pos hck
   clear hz hz0 h0 hb hck
   by_cases hl0 : l.length = 0
   ·have d1 : ((l.length : Int) == 0) = true := by simp [hl0]
    have R : Hid (coreCheckT t l c = 1) := by show _ = _; rw [hR0.out, if_pos hl0]
    clear hR0 hl0
    go_enter Tryz.func23, Tryz.ntmps23
    go_wp2_with fail
    refine (hv.out _ (by with_reducible repeat' (first | exact Ext.refl _ | assumption | refine Ext.drewN ?_ _ | refine Ext.drew ?_ | refine Ext.alloc ?_ _ | refine Ext.trans ?_ (by with_reducible assumption)))).mono ?_
    rintro e w1 ⟨rfl, hx1⟩
    have hB1 : Hid (Blk w1 w.heap.size 27 #[.slice ta t.length tc]) := Lib.hid ((Keep.of_ext (X := fun _ => False) hx1).blk (blk_new' rfl rfl) id)
    have hE1 := Lib.hid (((Ext.refl w).alloc (.cells #[.slice ta t.length tc] 27)).trans hx1)
    clear hx1 hv
    have c0 : w1.cell? ⟨w.heap.size, 0, none⟩ = some (.slice ta t.length tc) := hB1.out.cell 0
    have l0 := hB1.out.lt
    go_wp2_with fail
    refine (hsel.out _ hE1.out).mono ?_
    rintro e w1' ⟨rfl, hx2⟩
    have hBs := Lib.hid ((Keep.of_ext (X := fun _ => False) hx2).blk hB1.out id)
    have hEs := Lib.hid (hE1.out.trans hx2)
    clear hx2 hsel hE1 hB1 c0 l0
    go_wp2
    go_ret
    rw [R.out]
    exact ⟨rfl, hEs.out⟩
   ·have d1 : ((l.length : Int) == 0) = false := by rw [beq_eq_false_iff_ne]; omega
    obtain ⟨k, hk⟩ : ∃ k, Hid (checkT (subT t l) 1000000000 c = k) := ⟨_, rfl⟩
    have hR1 : Hid (coreCheckT t l c = if k = 0 then lackI t l (List.range l.length) else k) := by show _ = _; rw [hR0.out, if_neg hl0, hk.out]
    clear hR0 hl0
    go_enter Tryz.func23, Tryz.ntmps23
    go_wp2_with fail
    refine (hv.out _ (by with_reducible repeat' (first | exact Ext.refl _ | assumption | refine Ext.drewN ?_ _ | refine Ext.drew ?_ | refine Ext.alloc ?_ _ | refine Ext.trans ?_ (by with_reducible assumption)))).mono ?_
    rintro e w1 ⟨rfl, hx1⟩
    have hB1 : Hid (Blk w1 w.heap.size 27 #[.slice ta t.length tc]) := Lib.hid ((Keep.of_ext (X := fun _ => False) hx1).blk (blk_new' rfl rfl) id)
    have hE1 := Lib.hid (((Ext.refl w).alloc (.cells #[.slice ta t.length tc] 27)).trans hx1)
    clear hx1 hv
    have c0 : w1.cell? ⟨w.heap.size, 0, none⟩ = some (.slice ta t.length tc) := hB1.out.cell 0
    have l0 := hB1.out.lt
    go_wp2_with fail
    refine (hsel.out _ hE1.out).mono ?_
    rintro e w1' ⟨rfl, hx2⟩
    have hBs := Lib.hid ((Keep.of_ext (X := fun _ => False) hx2).blk hB1.out id)
    have hEs := Lib.hid (hE1.out.trans hx2)
    clear hx2 hsel hE1 hB1 c0 l0
    have c0 : w1'.cell? ⟨w.heap.size, 0, none⟩ = some (.slice ta t.length tc) := hBs.out.cell 0
    have l0 := hBs.out.lt
    go_wp2_with fail
    refine (rSub_calls _ _ t l w1' (hT.out.ext hEs.out) (hL.out.ext hEs.out) hi'.out (by omega)).mono ?_
    rintro e w2 ⟨sv, rfl, hs, hx2⟩
    obtain ⟨sa, sc, rfl⟩ := hs.form
    have hS2 := Lib.hid hs
    have hB2 := Lib.hid ((Keep.of_ext (X := fun _ => False) hx2).blk hBs.out id)
    have hE2 := Lib.hid (hEs.out.trans hx2)
    clear c0 l0 hs hx2 hBs hEs
    go_wp2_with fail
    refine (h33'.out w2 _ hE2.out hS2.out).mono ?_
    rw [hk.out]
    rintro e w3 ⟨rfl, hx3⟩
    have hB3 := Lib.hid ((Keep.of_ext (X := fun _ => False) hx3).blk hB2.out id)
    have hE3 := Lib.hid (hE2.out.trans hx3)
    clear hx3 hB2 hE2 hS2 hk h33'
    by_cases hk0 : k = 0
    ·have d2 : (k != 0) = false := by simp [hk0]
     have hR2 : Hid (coreCheckT t l c = lackI t l (List.range l.length)) := by show _ = _; rw [hR1.out, if_pos hk0]
     clear hR1 hk0
     go_wp2_with fail
     go_loopw [9, 10, 11] (fun vi _ _ wr => ∃ i : Nat, i ≤ l.length ∧ vi = .int .i64 i ∧ Hid (coreCheckT t l c = lackI t l ((List.range l.length).drop i)) ∧ Hid (Blk wr w.heap.size 27 #[.slice ta t.length tc]) ∧ Hid (Ext w wr)) (fun vi _ _ _ => l.length - (intOf vi).toNat)
     case atStart => exact ⟨0, by omega, rfl, hR2, hB3, hE3⟩
     case round =>
      clear hR2 hB3 hE3
      obtain ⟨i, hi, rfl, hR, hB, hE⟩ := hrel
      by_cases h1 : i < l.length
      ·obtain ⟨M, hM⟩ : ∃ M, Hid (l.eraseIdx i = M) := ⟨_, rfl⟩
       have hMl : M.length ≤ 512 := by rw [← hM.out, List.length_eraseIdx, if_pos h1]; omega
       have hMi : Hid (M <+ upI t.length) := Lib.hid (hM.out ▸ (List.eraseIdx_sublist l i).trans hsub.out)
       obtain ⟨q, e, hq⟩ : ∃ q e, Hid (standsT t M = (q, e)) := ⟨_, _, rfl⟩
       have hR3 : Hid (coreCheckT t l c = if e ≠ 0 then e else if q then lackI t l ((List.range l.length).drop (i + 1)) else 11) := by
        show _ = _
        rw [hR.out, range_drop h1]
        simp only [lackI]
        rw [hM.out, hq.out]
       clear hR
       go_upto_region 12 with (fail)
       have z0 := After.cell (show wr.cell? ⟨w.heap.size, 0, none⟩ = some (.slice ta t.length tc) from hB.out.cell 0)
       (refine wp_region_held [] [0, 1, 2, 3, 4, 5, 6, 7, 8, 9] [] (CkCon M q e) (by kernel_rfl) (by kernel_rfl) ?_; simp only [pickL]; with_reducible refine wpQuiet_nil ?_)
       (refine held_quiet [0, 1, 2] [3, 4, 5, 6, 7, 8, 9] (by kernel_rfl) (by kernel_rfl) ?_; simp only [pickL, List.drop]; (repeat (go_big_quiet_step (fail))); with_reducible refine wpQuiet_nil ?_)
       (refine held_call 3 [4, 5, 6, 7, 8, 9] rfl (by kernel_rfl) 32 (#[.slice la l.length lc, .int .i64 (i : Int)]) (fun W => by kernel_rfl) rfl ?_ ?_ ?_)
       ·exact fun W W' v e hh => ⟨fun h => (hh.1 h).ext e, hh.2⟩
       ·refine fun W hW _ => (rWithout_calls _ l i W (hL.out.ext (hE.out.trans hW)) (by omega)).mono ?_
        rw [hM.out]
        rintro e W' ⟨v, rfl, hv, hxx⟩
        exact ⟨_, rfl, hxx, ⟨fun _ => hv.read, (fun h => by cases h)⟩⟩
       rintro v ⟨Y, hY, hCv⟩
       obtain ⟨mA, mC, rfl⟩ := (hCv.1 rfl).form
       clear hCv hY Y
       simp only [Act.put, List.setIfInBounds_toArray, List.set_cons_succ, List.set_cons_zero]
       (refine held_call 4 [5, 6, 7, 8, 9] rfl (by kernel_rfl) 31 (#[.agg #[.slice ta t.length tc], .slice mA M.length mC]) (fun W => by kernel_rfl) rfl ?_ ?_ ?_)
       ·exact fun W W' v e hh => ⟨fun h => (hh.1 h).ext e, hh.2⟩
       ·refine fun W hW hD => (rstands_calls _ _ t M W (hT.out.ext (hE.out.trans hW)) (((hD 3 (dep_of 10 4 3 (by kernel_rfl))).2 rfl).1 rfl) (up_idx hMi.out) hMl (fun hn => subT_valid hz9.out hMi.out (sub_ne hn))).mono ?_
        rw [hq.out]
        rintro e W' ⟨rfl, hxx⟩
        exact ⟨_, rfl, hxx, ⟨(fun h => by cases h), fun _ => rfl⟩⟩
       rintro v ⟨Y, hY, hCv⟩
       obtain rfl := hCv.2 rfl
       clear hCv hY Y
       simp only [Act.put, List.setIfInBounds_toArray, List.set_cons_succ, List.set_cons_zero]
       (refine held_quiet [5, 6, 7, 8, 9] [] (by kernel_rfl) (by kernel_rfl) ?_; simp only [pickL, List.drop]; (repeat (go_big_quiet_step (fail))); with_reducible refine wpQuiet_nil ?_)
       intro w9 hx9 hfc htk Q0 hQ0
       simp only [pickL]
       have hB9 := Lib.hid ((Keep.of_ext (X := fun _ => False) hx9).blk hB.out id)
       have hE9 := Lib.hid (hE.out.trans hx9)
       clear hfc htk z0 hx9 hB hE hq hM hMi
       refine hQ0 _ _ ?_
       clear hQ0 Q0
       by_cases he : e = 0
       ·have d3 : (e != 0) = false := by simp [he]
        have hR4 : Hid (coreCheckT t l c = if q then lackI t l ((List.range l.length).drop (i + 1)) else 11) := by show _ = _; rw [hR3.out, if_neg (by simp [he])]
        clear hR3 he
        cases q with
        | true =>
         have R : Hid (coreCheckT t l c = lackI t l ((List.range l.length).drop (i + 1))) := hR4.out
         clear hR4
         go_wp2
         go_roundw
         case rel => first | exact ⟨i + 1, h1, by go_num, R, hB9, hE9⟩ | ((repeat apply Exists.intro); exact ⟨⟨i + 1, h1, by go_num, R, hB9, hE9⟩, rfl⟩)
         case measure => simp [intOf]; omega
        | false =>
         have R : Hid (coreCheckT t l c = 11) := hR4.out
         clear hR4
         go_wp2
         go_ret
         rw [R.out]
         exact ⟨rfl, hE9.out⟩
       ·have d3 : (e != 0) = true := by simp [he]
        have R : Hid (coreCheckT t l c = e) := by show _ = _; rw [hR3.out, if_pos he]
        clear hR3 he
        go_wp2
        go_ret
        rw [R.out]
        exact ⟨rfl, hE9.out⟩
      ·have R : Hid (coreCheckT t l c = 0) := by show _ = _; rw [hR.out, List.drop_eq_nil_of_le (by simp; omega)]; rfl
       clear hR
       go_wp2
       go_ret
       rw [R.out]
       exact ⟨rfl, hE.out⟩
    ·have d2 : (k != 0) = true := by simp [hk0]
     have R : Hid (coreCheckT t l c = k) := by show _ = _; rw [hR1.out, if_neg hk0]
     clear hR1 hk0
     go_wp2
     go_ret
     rw [R.out]
     exact ⟨rfl, hE3.out⟩
 ·have d0 : (z != 0) = true := by simp [h0]
  have R : Hid (coreCheckT t l c = z) := by
   show _ = _
   have hck : checkI t l = z := by unfold checkI; rw [if_neg (by rw [hz.out]; exact h0), hz.out]
   unfold coreCheckT
   rw [hck, if_neg h0]
  clear hz h0 h33'
  go_enter Tryz.func23, Tryz.ntmps23
  go_wp2_with fail
  refine (hv.out _ (by with_reducible repeat' (first | exact Ext.refl _ | assumption | refine Ext.drewN ?_ _ | refine Ext.drew ?_ | refine Ext.alloc ?_ _ | refine Ext.trans ?_ (by with_reducible assumption)))).mono ?_
  rintro e w1 ⟨rfl, hx1⟩
  have hB1 : Hid (Blk w1 w.heap.size 27 #[.slice ta t.length tc]) := Lib.hid ((Keep.of_ext (X := fun _ => False) hx1).blk (blk_new' rfl rfl) id)
  have hE1 := Lib.hid (((Ext.refl w).alloc (.cells #[.slice ta t.length tc] 27)).trans hx1)
  clear hx1 hv
  go_wp2
  go_ret
  rw [R.out]
  exact ⟨rfl, hE1.out⟩
theorem rFormed_nil (w : World) : Calls Tryz.prog 73 #[.slice none 0 0] w fun e w' => e = .returned (.bool false) ∧ Ext w w' := by
 go_enter Tryz.func73, Tryz.ntmps73
 go_wp2
 go_ret
 exact ⟨rfl, (by with_reducible repeat' (first | exact Ext.refl _ | assumption | refine Ext.drewN ?_ _ | refine Ext.drew ?_ | refine Ext.alloc ?_ _ | refine Ext.trans ?_ (by with_reducible assumption)))⟩
theorem rCheck33_nil (wv : Value) (t : List WishD) (b : Int) (w : World) (h : Wishes w wv t) :
  Calls Tryz.prog 53 #[.agg #[wv], .int .i64 b, .slice none 0 0] w fun e w' => e = .returned (.int .i64 (checkT t b [])) ∧ Ext w w' := by
 have hT := Lib.hid h
 obtain ⟨ta, tc, rfl⟩ := h.form
 clear h
 obtain ⟨z, hz⟩ : ∃ z, Hid (validT t = z) := ⟨_, rfl⟩
 have hv : Hid (∀ W, Ext w W → Calls Tryz.prog 29 #[.agg #[.slice ta t.length tc]] W fun e w' => e = .returned (.int .i64 z) ∧ Ext W w') := fun W hW => hz.out ▸ rValid_calls _ t W (hT.out.ext hW)
 have R : Hid (checkT t b [] = if z ≠ 0 then z else 3) := by
  show _ = _
  unfold checkT
  rw [hz.out]
  rfl
 rw [R.out]
 clear R hz
 by_cases h0 : z = 0
 ·subst h0
  rw [show (if (0 : Int) ≠ 0 then (0 : Int) else 3) = 3 from rfl]
  go_enter Tryz.func53, Tryz.ntmps53
  go_wp2_with fail
  refine (hv.out _ (by with_reducible repeat' (first | exact Ext.refl _ | assumption | refine Ext.drewN ?_ _ | refine Ext.drew ?_ | refine Ext.alloc ?_ _ | refine Ext.trans ?_ (by with_reducible assumption)))).mono ?_
  rintro e w1 ⟨rfl, hx1⟩
  have hE1 := Lib.hid (show Ext w w1 from Ext.trans (by exact (by with_reducible repeat' (first | exact Ext.refl _ | assumption | refine Ext.drewN ?_ _ | refine Ext.drew ?_ | refine Ext.alloc ?_ _ | refine Ext.trans ?_ (by with_reducible assumption)))) hx1)
  clear hx1 hv
  go_wp2_with fail
  refine (rFormed_nil w1).mono ?_
  rintro e w2 ⟨rfl, hx2⟩
  go_wp2
  go_ret
  exact ⟨rfl, hE1.out.trans hx2⟩
 ·have d0 : (z != 0) = true := by simp [h0]
  rw [if_pos h0]
  clear h0
  go_enter Tryz.func53, Tryz.ntmps53
  go_wp2_with fail
  refine (hv.out _ (by with_reducible repeat' (first | exact Ext.refl _ | assumption | refine Ext.drewN ?_ _ | refine Ext.drew ?_ | refine Ext.alloc ?_ _ | refine Ext.trans ?_ (by with_reducible assumption)))).mono ?_
  rintro e w1 ⟨rfl, hx1⟩
  have hE1 := Lib.hid (show Ext w w1 from Ext.trans (by exact (by with_reducible repeat' (first | exact Ext.refl _ | assumption | refine Ext.drewN ?_ _ | refine Ext.drew ?_ | refine Ext.alloc ?_ _ | refine Ext.trans ?_ (by with_reducible assumption)))) hx1)
  clear hx1 hv
  go_wp2
  go_ret
  exact ⟨rfl, hE1.out⟩
theorem rCheckNil_calls (wv lv : Value) (t : List WishD) (l : List Int) (w : World) (h : Wishes w wv t) (hl : Ints w lv l) :
  Calls Tryz.prog 23 #[.agg #[wv], lv, .slice none 0 0] w fun e w' => e = .returned (.int .i64 (coreCheckT t l [])) ∧ Ext w w' :=
 rCheckH_calls wv lv none 0 0 t l [] w h hl fun W v _ hW => rCheck33_nil v (subT t l) 1000000000 W hW
end Go.Proofs.YtjglidlmpjmjeaaGreatDoor
