/- The law CarryNoNewClash, walked. -/
import Derived.Test.YtkicielleiafgaaCT
import Derived.Test.YtkicielleiafgaaCW
import Derived.Test.YtkicielleiafgaaHE
namespace Go.Proofs.Ytkicielleiafgaa
open Go.RowKit

theorem trail_at {t : List WishD} {l : List StepD} {n i : Nat} (h : i < n) : (trailTo t l n)[i]? = some (stAt t l i) := by simp [trailTo, h]
theorem stAt_zero (t : List WishD) (l : List StepD) : stAt t l 0 = zeros t.length := by simp [stAt, afterS]
theorem stAt_end {t : List WishD} {p : List Int} (h : lawfulB t p = true) : stAt t (orderL t p) (orderL t p).length = p := by
  unfold stAt
  rw [List.take_of_length_le (Nat.le_refl _), (order_spec h).1]
theorem statesS_ok {t : List WishD} {p : List Int} (h : lawfulB t p = true) (h512 : t.length ≤ 512) : statesS t (orderL t p) = (trailTo t (orderL t p) ((orderL t p).length + 1), 0) := by
  unfold statesS
  rw [if_pos (order_steps h h512)]
def ClashCon (k : Nat) (v : Value) (_ : World) : Prop := k = 21 ∨ k = 31 → v = .bool true

set_option maxHeartbeats 3200000 in
set_option maxRecDepth 100000 in
theorem carryNoNewClash_calls (rv : Value) (l : List RawD) (xv : Value) (x : List Int) (w : World) (h : Raws w rv l) (hx : Bytes w xv x) :
    Calls Try.prog 8 #[rv, xv] w fun e w' => e = .returned (.bool true) ∧ Ext w w' := by
  have hraw := Lib.hid h
  have hbyt := Lib.hid hx
  have hok := Lib.hid h.ok
  clear h hx
  go_enter Try.func8, Try.ntmps8
  go_wp2_with fail
  refine (sanity35_calls _).mono ?_
  rintro e w1 ⟨rfl, hx1⟩
  have hx1' := Lib.hid hx1
  clear hx1
  go_wp2_with fail
  refine (made_calls rv l w1 (hraw.out.ext hx1'.out)).mono ?_
  rintro e w2 ⟨tv, rfl, ht, hx2⟩
  obtain ⟨t, ht0⟩ : ∃ t, Hid (madeT l = t) := ⟨_, rfl⟩
  have hv : Hid (validT t = 0) := by rw [← ht0.out]; exact made_valid hok.out
  have ho : Hid (∀ x ∈ t, 0 < x.opts.length) := by rw [← ht0.out]; exact fun x hx => (made_opts hok.out hx).1
  have hlen : t.length ≤ 4 := by rw [← ht0.out]; exact made_len.2
  have hl0 : 0 < t.length := by rw [← ht0.out]; exact made_len.1
  rw [ht0.out] at ht
  clear ht0
  have ht' := Lib.hid ht.read
  obtain ⟨ta, tc, rfl⟩ := ht.read.form
  have hx2' := Lib.hid (hx1'.out.trans hx2)
  clear ht hx2
  go_wp2_with fail
  have hq := Lib.hid ((Ext.refl w2).alloc (.cells #[.slice ta t.length tc] 27))
  refine (lawful35_calls _ xv t x _ (ht'.out.ext hq.out) (hbyt.out.ext (hx2'.out.trans hq.out)) hv.out ho.out hl0 (by omega)).mono ?_
  rintro e w3 ⟨kv, pick, hk, hx3, hor⟩
  have hk3 := Lib.hid hk
  obtain ⟨ka, kc, rfl⟩ := hk.form
  have tb3 : w3.cell? ⟨w2.heap.size, 0, none⟩ = some (.slice ta t.length tc) := hx3.cell (by simp)
  have hb3 := World.block_lt_of_cell? _ _ tb3
  have ht3 := Lib.hid (ht'.out.ext (hq.out.trans hx3))
  have hw3 := Lib.hid (hx2'.out.trans (hq.out.trans hx3))
  have hby3 := Lib.hid (hbyt.out.ext hw3.out)
  clear hk hx3 hq ht' hx2' hbyt hx1'
  revert tb3 hb3
  generalize w2.heap.size = bt
  intro tb3 hb3
  rcases hor with ⟨rfl, hlw⟩ | ⟨rfl, hno⟩
  · have hlw' := Lib.hid hlw
    have hpl' : Hid (pick.length = t.length) := lawful_len hlw
    have hpl4 : pick.length ≤ 4 := by rw [hpl'.out]; exact hlen
    clear hlw
    go_wp2_with fail
    refine (order_calls _ _ t pick _ ht3.out hk3.out).mono ?_
    rw [orderS_ok hlw'.out]
    rintro e w4 ⟨sv, rfl, hs, hx4⟩
    obtain ⟨ol, hol⟩ : ∃ ol, Hid (orderL t pick = ol) := ⟨_, rfl⟩
    obtain ⟨ls, hls⟩ : ∃ ls, Hid (trailTo t ol (ol.length + 1) = ls) := ⟨_, rfl⟩
    have hR : Hid (statesS t ol = (ls, 0)) := by rw [← hls.out, ← hol.out]; exact statesS_ok hlw'.out (by omega)
    have hll : ls.length = ol.length + 1 := by rw [← hls.out, trailTo_len]
    have hcalm : Hid (∀ i r, ls[i]? = some r → calmB t r = true) := Lib.hid fun i r hi => by
      have hi2 : i < ol.length + 1 := by have := (List.getElem?_eq_some_iff.1 hi).1; omega
      rw [← hls.out, trail_at hi2] at hi
      cases hi
      rw [← hol.out]
      exact (order_way hlw'.out i).calm
    have hfst : Hid (ls[0]? = some (zeros pick.length)) := by show _ = _; rw [← hls.out, trail_at (by omega), stAt_zero, hpl'.out]
    have hlst : Hid (ls[ol.length]? = some pick) := by show _ = _; rw [← hls.out, trail_at (by omega), ← hol.out, stAt_end hlw'.out]
    have hll' := Lib.hid hll
    have hol8 : ol.length ≤ 8 := by
      have h1 := order_len hlw'.out
      have h2 := chg_le pick
      rw [hol.out] at h1
      omega
    rw [hol.out] at hs
    have hs4 := Lib.hid hs.read
    obtain ⟨sa, sc, rfl⟩ := hs.read.form
    have tb4 := hx4.cell tb3
    have ht4 := Lib.hid (ht3.out.ext hx4)
    have hk4 := Lib.hid (hk3.out.ext hx4)
    have hw4 := Lib.hid (hw3.out.trans hx4)
    clear hs hx4 tb3 ht3 hk3 hw3 hb3 hol hls hll
    go_wp2_with fail
    refine (states_calls _ _ t ol _ ht4.out hs4.out).mono ?_
    rw [hR.out]
    rintro e w5 ⟨lv, rfl, hl, hx5⟩
    dsimp only at hl ⊢
    obtain ⟨la, lc, rfl, hln, hlc, rat⟩ := hl.open
    have rat' := Lib.hid rat
    have hl1 := hll'.out
    have tb5 := hx5.cell tb4
    have hb5 := World.block_lt_of_cell? _ _ tb5
    have ht5 := Lib.hid (ht4.out.ext hx5)
    have hk5 := Lib.hid (hk4.out.ext hx5)
    have hw5 := Lib.hid (hw4.out.trans hx5)
    rw [hl1] at hln ⊢
    obtain ⟨b0, o0, r0, r0a, r0c, rfl, hb0, er0, c0, i0⟩ := rat'.out 0 (by omega) w5 (Ext.refl _)
    obtain ⟨b1, o1, r1, r1a, r1c, e1, _, er1, c1, i1⟩ := rat'.out ol.length (by omega) w5 (Ext.refl _)
    cases e1
    have q0 : Hid (r0 = zeros pick.length) := Option.some.inj (er0.out.symm.trans hfst.out)
    have q1 : Hid (r1 = pick) := Option.some.inj (er1.out.symm.trans hlst.out)
    have i0' := Lib.hid i0
    have i1' := Lib.hid i1
    clear hl rat hx5 tb4 ht4 hk4 hw4 hs4 hl1 i0 i1 er0 er1 hfst hlst
    rw [Nat.add_zero] at c0
    have z0 := After.cell c0
    have z1 := After.cell c1
    go_upto_region 8 with (fail)
    (refine wp_region_held [] [0, 1, 2, 3, 4, 5, 6, 7, 8, 9, 10, 11, 12, 13, 14, 15, 16, 17, 18, 19, 20, 21, 22, 23, 24, 25, 26, 27, 28, 29, 30, 31, 32, 33] [] (ClashCon) (by kernel_rfl) (by kernel_rfl) ?_; simp only [pickL]; with_reducible refine wpQuiet_nil ?_)
    (refine held_quiet [0, 1, 2, 3, 4, 5, 6, 7, 8, 9, 10, 11, 12, 13, 14, 15, 16, 17, 18, 19] [20, 21, 22, 23, 24, 25, 26, 27, 28, 29, 30, 31, 32, 33] (by kernel_rfl) (by kernel_rfl) ?_; simp only [pickL, List.drop]; (repeat (go_big_quiet_step (fail))); with_reducible refine wpQuiet_nil ?_)
    refine held_made 20 [21, 22, 23, 24, 25, 26, 27, 28, 29, 30, 31, 32, 33] rfl (by kernel_rfl) (fun g => .slice (some ⟨g, 0, none⟩) pick.length pick.length) (.cells (zerosV pick.length) 3) (fun W => ?_) (fun g g2 e => by cases e; rfl) (fun g => rfl) ?_
    · have h := run_make_ints pick.length (by omega) W
      simp [execOp, go_sem, h]
    intro g
    simp only [Act.put, List.setIfInBounds_toArray, List.set_cons_succ, List.set_cons_zero]
    (refine held_call 21 [22, 23, 24, 25, 26, 27, 28, 29, 30, 31, 32, 33] rfl (by kernel_rfl) 22 (#[.slice r0a r0.length r0c, .slice (some ⟨g, 0, none⟩) pick.length pick.length]) (fun W => by kernel_rfl) rfl ?_ ?_ ?_)
    · exact fun W W' v e hh => hh
    · refine fun W hW hD => ?_
      have hB : Blk W g 3 (zerosV pick.length) := ((hD 20 (dep_of 3 21 20 (by kernel_rfl))).2 rfl).1
      have hZ : Ints W (.slice (some ⟨g, 0, none⟩) pick.length pick.length) (zeros pick.length) := by
        have := ints_of_blk (l := zeros pick.length) (by simpa [zeros, zerosV, zerosL] using hB) (Nat.le_refl _) (by simp [zeros]; unfold maxLen; omega)
        rwa [show (zeros pick.length).length = pick.length by simp [zeros]] at this
      refine (rSame35_calls _ _ r0 (zeros pick.length) W (i0'.out.ext hW) hZ).mono ?_
      rw [show decide (r0 = zeros pick.length) = true by rw [q0.out]; simp]
      rintro e W' ⟨rfl, hxx⟩
      exact ⟨_, rfl, hxx, fun _ => rfl⟩
    rintro v ⟨Y, hY, hC⟩
    obtain rfl := hC (Or.inl rfl)
    clear hC hY Y
    simp only [Act.put, List.setIfInBounds_toArray, List.set_cons_succ, List.set_cons_zero]
    (refine held_quiet [22, 23, 24, 25, 26, 27, 28, 29, 30] [31, 32, 33] (by kernel_rfl) (by kernel_rfl) ?_; simp only [pickL, List.drop]; (repeat (go_big_quiet_step (fail))); with_reducible refine wpQuiet_nil ?_)
    (refine held_call 31 [32, 33] rfl (by kernel_rfl) 22 (#[.slice r1a r1.length r1c, .slice ka pick.length kc]) (fun W => by kernel_rfl) rfl ?_ ?_ ?_)
    · exact fun W W' v e hh => hh
    · refine fun W hW _ => ?_
      refine (rSame35_calls _ _ r1 pick W (i1'.out.ext hW) (hk5.out.ext hW)).mono ?_
      rw [show decide (r1 = pick) = true by rw [q1.out]; simp]
      rintro e W' ⟨rfl, hxx⟩
      exact ⟨_, rfl, hxx, fun _ => rfl⟩
    rintro v ⟨Y, hY, hC⟩
    obtain rfl := hC (Or.inr rfl)
    clear hC hY Y
    simp only [Act.put, List.setIfInBounds_toArray, List.set_cons_succ, List.set_cons_zero]
    (refine held_quiet [32, 33] [] (by kernel_rfl) (by kernel_rfl) ?_; simp only [pickL, List.drop]; (repeat (go_big_quiet_step (fail))); with_reducible refine wpQuiet_nil ?_)
    intro W hW hf ht Q0 hQ0
    have hW' := Lib.hid hW
    have tW := hW.cell tb5
    clear hf ht hW z0 z1 c0 c1
    simp only [pickL]
    refine hQ0 _ _ ?_
    clear hQ0
    go_wp2_with fail
    go_loopw [13] (fun vi wr => ∃ i : Nat, i ≤ ol.length + 1 ∧ vi = .int .i64 i ∧ Hid (Ext W wr)) (fun vi _ => ol.length + 1 - (intOf vi).toNat)
    case atStart => exact ⟨0, by omega, rfl, Lib.hid (Ext.refl _)⟩
    case round =>
      obtain ⟨i, hi, rfl, hx⟩ := hrel
      by_cases h1 : i < ol.length + 1
      · obtain ⟨b2, o2, r, ra, rc, e2, hb2, er, g0, ir⟩ := rat'.out i (by rw [hll'.out]; exact h1) wr (hW'.out.trans hx.out)
        cases e2
        have hC : Hid (∀ X, Ext wr X → Calls Try.prog 33 #[.agg #[.slice ta t.length tc], .slice ra r.length rc] X fun e w' => e = .returned (.bool true) ∧ Ext X w') := fun X hX => by
          have := calm_calls (.slice ta t.length tc) (.slice ra r.length rc) t r X (ht5.out.ext (hW'.out.trans (hx.out.trans hX))) (ir.ext hX)
          rwa [hcalm.out i r er.out] at this
        have c2 := hx.out.cell tW
        have z0 := After.cell c2
        have z1 := After.cell g0
        clear c2 g0 ir er
        go_wp2_with fail
        refine wp_region_after (by kernel_rfl) (by kernel_rfl) ?_
        repeat (go_big_quiet_step (exact After.call _ (hC.out _ (After.ext _))))
        refine wpQuiet_nil ?_
        rintro _ ⟨y, rfl⟩
        have hy := Lib.hid (hx.out.trans y.ext)
        generalize y.world = Y at hy ⊢
        clear z0 z1 hx hC
        go_wp2
        go_roundw
        case rel => exact ⟨i + 1, by omega, by go_num, hy⟩
        case measure => simp [intOf]; omega
      · go_wp2
        go_ret
        exact ⟨rfl, hw5.out.trans (hW'.out.trans hx.out)⟩
  · go_wp2
    go_ret
    exact ⟨rfl, hw3.out⟩
end Go.Proofs.Ytkicielleiafgaa
