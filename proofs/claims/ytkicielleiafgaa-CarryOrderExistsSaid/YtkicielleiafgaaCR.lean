/- The law CarryOrderExists, walked. -/
import Derived.Test.YtkicielleiafgaaCQ
namespace Go.Proofs.Ytkicielleiafgaa
open Go.RowKit

theorem orderS_ok {t : List WishD} {p : List Int} (h : lawfulB t p = true) : orderS t p = (orderL t p, 0) := by
  unfold orderS
  rw [if_pos (lawful_parts h).1, if_pos h]
theorem orderS_no {t : List WishD} {p : List Int} (hv : validT t = 0) (h : lawfulB t p = false) : orderS t p = ([], 1) := by
  unfold orderS
  rw [if_pos hv, if_neg (by rw [h]; decide)]
def ExistsCon (c : List Int) (k : Nat) (v : Value) (W : World) : Prop := (k = 3 → Ints W v c) ∧ (k = 4 → ∃ u, v = .tuple #[u, .int .i64 1])

set_option maxHeartbeats 1600000 in
set_option maxRecDepth 100000 in
theorem carryOrderExists_calls (rv : Value) (l : List RawD) (xv : Value) (x : List Int) (w : World) (h : Raws w rv l) (hx : Bytes w xv x) :
    Calls Try.prog 3 #[rv, xv] w fun e w' => e = .returned (.bool true) ∧ Ext w w' := by
  have hraw := Lib.hid h
  have hbyt := Lib.hid hx
  have hok := Lib.hid h.ok
  clear h hx
  go_enter Try.func3, Try.ntmps3
  go_wp2_with fail
  refine (sanity35_calls _).mono ?_
  rintro e w1 ⟨rfl, hx1⟩
  have hx1' := Lib.hid hx1
  clear hx1
  go_wp2_with fail
  refine (made_calls rv l w1 (hraw.out.ext hx1'.out)).mono ?_
  rintro e w2 ⟨tv, rfl, ht, hx2⟩
  obtain ⟨t, ht0⟩ : ∃ t, Hid (madeT l = t) := ⟨_, rfl⟩
  have hv : Hid (validT t = 0) := by rw [← ht0.out]; exact made_valid hok.out
  have ho : Hid (∀ x ∈ t, 0 < x.opts.length) := by rw [← ht0.out]; exact fun x hx => (made_opts hok.out hx).1
  have hlen : t.length ≤ 4 := by rw [← ht0.out]; exact made_len.2
  have hl0 : 0 < t.length := by rw [← ht0.out]; exact made_len.1
  rw [ht0.out] at ht
  clear ht0
  have ht' := Lib.hid ht.read
  obtain ⟨ta, tc, rfl⟩ := ht.read.form
  have hx2' := Lib.hid (hx1'.out.trans hx2)
  clear ht hx2
  go_wp2_with fail
  have hq := Lib.hid ((Ext.refl w2).alloc (.cells #[.slice ta t.length tc] 27))
  refine (lawful35_calls _ xv t x _ (ht'.out.ext hq.out) (hbyt.out.ext (hx2'.out.trans hq.out)) hv.out ho.out hl0 (by omega)).mono ?_
  rintro e w3 ⟨kv, pick, hk, hx3, hor⟩
  have hk3 := Lib.hid hk
  obtain ⟨ka, kc, rfl⟩ := hk.form
  have tb3 : w3.cell? ⟨w2.heap.size, 0, none⟩ = some (.slice ta t.length tc) := hx3.cell (by simp)
  have hb3 := World.block_lt_of_cell? _ _ tb3
  have ht3 := Lib.hid (ht'.out.ext (hq.out.trans hx3))
  have hw3 := Lib.hid (hx2'.out.trans (hq.out.trans hx3))
  have hby3 := Lib.hid (hbyt.out.ext hw3.out)
  clear hk hx3 hq ht' hx2' hbyt hx1'
  revert tb3 hb3
  generalize w2.heap.size = bt
  intro tb3 hb3
  rcases hor with ⟨rfl, hlw⟩ | ⟨rfl, hno⟩
  · have hlw' := Lib.hid hlw
    clear hlw
    go_wp2_with fail
    refine (order_calls _ _ t pick _ ht3.out hk3.out).mono ?_
    rw [orderS_ok hlw'.out]
    rintro e w4 ⟨sv, rfl, hs, hx4⟩
    obtain ⟨ol, hol⟩ : ∃ ol, Hid (orderL t pick = ol) := ⟨_, rfl⟩
    have hR : Hid (checkS t pick ol = 0) := by rw [← hol.out]; exact order_check hlw'.out (by omega)
    rw [hol.out] at hs
    have hs4 := Lib.hid hs.read
    obtain ⟨sa, sc, rfl⟩ := hs.read.form
    have tb4 := hx4.cell tb3
    have ht4 := Lib.hid (ht3.out.ext hx4)
    have hk4 := Lib.hid (hk3.out.ext hx4)
    have hw4 := Lib.hid (hw3.out.trans hx4)
    clear hs hx4 tb3 ht3 hk3 hw3 hol hb3
    go_wp2_with fail
    refine (carryCheckFull_calls _ _ _ t pick ol _ ht4.out hk4.out hs4.out).mono ?_
    rw [hR.out]
    rintro e w5 ⟨rfl, hx5⟩
    have hw5 := Lib.hid (hw4.out.trans hx5)
    clear hx5
    go_wp2
    go_ret
    exact ⟨rfl, hw5.out⟩
  · have hno' := Lib.hid hno
    obtain ⟨c, hc⟩ : ∃ c, Hid (choiceT t x = c) := ⟨_, rfl⟩
    have hcno : Hid (orderS t c = ([], 1)) := orderS_no hv.out (hno c)
    clear hno
    go_upto_region 5 with (fail)
    have z0 := After.cell tb3
    (refine wp_region_held [2] [0, 1, 3, 4, 5, 6, 7, 8, 9] [] (ExistsCon c) (by kernel_rfl) (by kernel_rfl) ?_; simp only [pickL, List.drop]; (repeat (go_big_quiet_step (fail))); with_reducible refine wpQuiet_nil ?_)
    (refine held_quiet [0, 1] [3, 4, 5, 6, 7, 8, 9] (by kernel_rfl) (by kernel_rfl) ?_; simp only [pickL, List.drop]; (repeat (go_big_quiet_step (fail))); with_reducible refine wpQuiet_nil ?_)
    (refine held_call 3 [4, 5, 6, 7, 8, 9] rfl (by kernel_rfl) 17 (#[.agg #[.slice ta t.length tc], xv]) (fun W => by kernel_rfl) rfl ?_ ?_ ?_)
    · exact fun W W' v e hh => ⟨fun k => (hh.1 k).ext e, hh.2⟩
    · refine fun W hW _ => (choice_calls _ xv t x W (ht3.out.ext hW) (hby3.out.ext hW) ho.out (by omega)).mono ?_
      rintro e W' ⟨kv, rfl, hu, hxx⟩
      exact ⟨_, rfl, hxx, fun _ => by rw [← hc.out]; exact hu.read, fun k => absurd k (by decide)⟩
    rintro v ⟨Y, hY, hC⟩
    obtain ⟨va, vc, rfl⟩ := (hC.1 rfl).form
    clear hC hY Y
    simp only [Act.put, List.setIfInBounds_toArray, List.set_cons_succ, List.set_cons_zero]
    (refine held_call 4 [5, 6, 7, 8, 9] rfl (by kernel_rfl) 16 (#[.agg #[.slice ta t.length tc], .slice va c.length vc]) (fun W => by kernel_rfl) rfl ?_ ?_ ?_)
    · exact fun W W' v e hh => ⟨fun k => (hh.1 k).ext e, hh.2⟩
    · refine fun W hW hD => ?_
      have hI : Ints W (.slice va c.length vc) c := ((hD 3 (dep_of 3 4 3 (by kernel_rfl))).2 rfl).1 rfl
      refine (order_calls _ _ t c W (ht3.out.ext hW) hI).mono ?_
      rw [hcno.out]
      rintro e W' ⟨kv, rfl, _, hxx⟩
      exact ⟨_, rfl, hxx, fun k => absurd k (by decide), fun _ => ⟨_, rfl⟩⟩
    rintro v ⟨Y, hY, hC⟩
    obtain ⟨u, rfl⟩ := hC.2 rfl
    clear hC hY Y
    simp only [Act.put, List.setIfInBounds_toArray, List.set_cons_succ, List.set_cons_zero]
    (refine held_quiet [5, 6, 7, 8, 9] [] (by kernel_rfl) (by kernel_rfl) ?_; simp only [pickL, List.drop]; (repeat (go_big_quiet_step (fail))); with_reducible refine wpQuiet_nil ?_)
    intro W hW hf ht Q0 hQ0
    have hW' := Lib.hid (hw3.out.trans hW)
    clear hf ht hW z0
    simp only [pickL]
    refine hQ0 _ _ ?_
    clear hQ0
    go_wp2
    go_ret
    exact ⟨rfl, hW'.out⟩
end Go.Proofs.Ytkicielleiafgaa
