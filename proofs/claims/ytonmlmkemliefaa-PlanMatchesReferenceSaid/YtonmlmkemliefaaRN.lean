/- The law PlanMatchesReference, walked: true for every task, every four numbers and every list. -/
import Derived.Test.YtonmlmkemliefaaRM
import Derived.Test.YtonmlmkemliefaaRK
import Derived.Test.YtonmlmkemliefaaSanLaw
namespace Go.Proofs.Ytonmlmkemliefaa
open Go.RowKit

theorem WishesX.form {z W : World} {v : Value} {l : List WishD} (h : WishesX z W v l) : ∃ A c, v = .slice A l.length c := let ⟨_, a, _⟩ := h; owns_form a
structure FourD where
  a : Int
  b : Int
  c : Int
  d : Int
def FourV (_ : World) (v : Value) (x : FourD) : Prop := v = .agg #[.int .i64 x.a, .int .i64 x.b, .int .i64 x.c, .int .i64 x.d]
def TaskV (w : World) (v : Value) (t : List WishD) : Prop := ∃ wv, v = .agg #[wv] ∧ Wishes w wv t
def MatchCon (w : World) (t : List WishD) (k : Nat) (v : Value) (W : World) : Prop := k = 1 → ∃ uv, v = .agg #[uv] ∧ WishesX w W uv (cutT t)
set_option maxHeartbeats 3200000 in
set_option maxRecDepth 100000 in
theorem planMatchesReference_calls (tv : Value) (t : List WishD) (xv : Value) (x : FourD) (pv : Value) (pick : List Int) (w : World) (h : TaskV w tv t) (hx : FourV w xv x) (hp : Ints w pv pick) :
    Calls Try.prog 8 #[tv, xv, pv] w fun e w' => e = .returned (.bool true) ∧ Ext w w' := by
  obtain ⟨wv, rfl, hT⟩ := h
  obtain ⟨a, b, c, d⟩ := x
  unfold FourV at hx
  dsimp only at hx
  subst hx
  obtain ⟨pa, pc, rfl, hpn, hpc, _⟩ := hp.open
  obtain ⟨ta, tc, rfl⟩ := hT.form
  have hp' := Lib.hid hp
  have hT' := Lib.hid hT
  clear hp hT
  go_enter Try.func8, Try.ntmps8
  go_upto_region 1 with (fail)
  refine wp_abs (S := fun W => Hid (Ext w W) ∧ Hid (Blk W w.heap.size 26 #[.slice ta t.length tc]) ∧ Hid (Blk W (w.heap.size + 1) 61 #[.int .i64 a, .int .i64 b, .int .i64 c, .int .i64 d])) ?_ ?_
  · exact ⟨Lib.hid (by exact (by repeat' (first | (with_reducible exact Ext.refl _) | (with_reducible assumption) | (with_reducible refine Ext.drewN ?_ _) | (with_reducible refine Ext.drew ?_) | (with_reducible refine Ext.alloc ?_ _) | (with_reducible refine Ext.trans ?_ (by with_reducible assumption))))), Lib.hid (Blk.alloc (blk_new' rfl rfl) _), Lib.hid (blk_new' (by simp only [World.size_alloc]) rfl)⟩
  rintro W0 ⟨hE0, hB0, hX0⟩
  go_wp2_with fail
  refine (sanity_calls _).mono ?_
  rintro e' w1 ⟨rfl, hx1⟩
  have hE1 := Lib.hid (hE0.out.trans hx1)
  have hB1 := (Keep.of_ext (X := fun _ => False) hx1).blk hB0.out id
  have hX1 := Lib.hid ((Keep.of_ext (X := fun _ => False) hx1).blk hX0.out id)
  have z0 := After.cell (show w1.cell? ⟨w.heap.size, 0, none⟩ = some (.slice ta t.length tc) from hB1.cell 0)
  clear hE0 hB0 hX0 hx1 hB1
  go_upto_region 2 with (fail)
  (refine wp_region_held [2, 3, 4, 5, 6] [0, 1, 7] [8, 9] (MatchCon w t) (by kernel_rfl) (by kernel_rfl) ?_; simp only [pickL, List.drop]; (repeat (go_big_quiet_step (fail))); with_reducible refine wpQuiet_nil ?_)
  (refine held_quiet [0] [1, 7] (by kernel_rfl) (by kernel_rfl) ?_; simp only [pickL, List.drop]; (repeat (go_big_quiet_step (fail))); with_reducible refine wpQuiet_nil ?_)
  (refine held_call 1 [7] rfl (by kernel_rfl) 22 (#[.agg #[.slice ta t.length tc]]) (fun W => by kernel_rfl) rfl ?_ ?_ ?_)
  · exact fun W W' v e h hk => let ⟨uv, a, b⟩ := h hk; ⟨uv, a, b.keep (T := 26) (Keep.of_ext (X := fun _ => False) e) (TX.no _ _) (by decide) (by decide)⟩
  · refine fun W hW _ => (cut_calls _ t w W hT'.out (hE1.out.trans hW)).mono ?_
    rintro e W' ⟨uv, rfl, hu, hx⟩
    exact ⟨_, rfl, hx, fun _ => ⟨_, rfl, hu⟩⟩
  rintro v ⟨Y, hY, hC⟩
  obtain ⟨uv, rfl, hD⟩ := hC rfl
  obtain ⟨uA, uC, rfl⟩ := hD.form
  clear hC hD hY Y
  simp only [Act.put, List.setIfInBounds_toArray, List.set_cons_succ, List.set_cons_zero]
  (refine held_made 7 [] rfl (by kernel_rfl) (fun g => .pointer (some ⟨g, 0, none⟩)) (.cells #[.slice none 0 0] 26) (fun W => by kernel_rfl) (fun g g2 e => by cases e; rfl) (fun g => rfl) ?_)
  intro gu
  simp only [Act.put, List.setIfInBounds_toArray, List.set_cons_succ, List.set_cons_zero]
  intro W hW hf ht Q0 hQ0
  obtain ⟨_, e1, hU⟩ := (hf 1).1.2 rfl rfl
  cases e1
  have h7 := (hf 7).2 rfl
  have b7 : Blk W gu 26 #[.slice none 0 0] := h7.1
  have hgu : w1.heap.size ≤ gu := h7.2
  have c7 : W.cell? ⟨gu, 0, none⟩ = some (.slice none 0 0) := b7.cell 0
  have f7 := b7.frozen 0
  have hU' := Lib.hid hU
  have b7' := Lib.hid b7
  have hW' := Lib.hid hW
  simp only [pickL, List.drop]
  clear hf ht h7 b7 hU hW z0
  obtain ⟨u, hu⟩ : ∃ u, Hid (cutT t = u) := ⟨_, rfl⟩
  rw [hu.out] at hU' ⊢
  obtain ⟨km, hkm⟩ : ∃ km : Nat, Hid ((if 6 < (pick.length : Int) then (6 : Int) else (pick.length : Int)).toNat = km) := ⟨_, rfl⟩
  have hkm1 : km = min 6 pick.length := by rw [← hkm.out]; split <;> omega
  have hP : Hid (Ints w (.slice pa km pc) (pick.take km)) := Lib.hid (hp'.out.take (m := km) (by omega))
  obtain ⟨p, hpk⟩ : ∃ p, Hid (pick.take km = p) := ⟨_, rfl⟩
  rw [hpk.out] at hP
  rw [hkm.out]
  clear hkm hkm1 hpk
  generalize (if 6 < (pick.length : Int) then (6 : Int) else (pick.length : Int)) = kz
  go_upto_region 3 with (fail)
  refine wp_abs (S := fun V => Hid (Ext w V) ∧ Hid (Blk V gu 26 #[.slice uA u.length uC]) ∧ Hid (Wishes V (.slice uA u.length uC) u) ∧ Hid (Blk V (w.heap.size + 1) 61 #[.int .i64 a, .int .i64 b, .int .i64 c, .int .i64 d])) ?_ ?_
  · have k1 := keep_set W gu 0 (.slice uA u.length uC)
    have ex := hW'.out.setCell (p := ⟨gu, 0, none⟩) hgu (.slice uA u.length uC)
    exact ⟨Lib.hid (hE1.out.trans ex), Lib.hid (b7'.out.set_ 0 _), Lib.hid ((hU'.out.keep k1 (TX.one b7'.out) (by decide) (by decide)).read (hE1.out.trans ex)), Lib.hid ((Keep.of_ext (X := fun _ => False) ex).blk hX1.out id)⟩
  clear hE1 hX1 b7' hU' hW' c7 f7
  rintro V ⟨hE, hB, hU, hX⟩
  have c0 : V.cell? ⟨gu, 0, none⟩ = some (.slice uA u.length uC) := hB.out.cell 0
  obtain ⟨hr, hh⟩ : ∃ hr, Hid (harmT u p = hr) := ⟨_, rfl⟩
  obtain ⟨r1, r2⟩ := hr
  go_wp2_with fail
  refine (harm_calls _ _ u p V hU.out (hP.out.ext hE.out)).mono ?_
  rw [hh.out]
  rintro e' w2 ⟨rfl, hx2⟩
  have hx2' := Lib.hid hx2
  replace c0 := hx2.cell c0
  clear hx2
  go_wp2_with fail
  refine (rHarm_calls _ _ u p w2 (hU.out.ext hx2'.out) (hP.out.ext (hE.out.trans hx2'.out))).mono ?_
  rw [hh.out]
  rintro e' w3 ⟨rfl, hx3⟩
  have hx3' := Lib.hid (hx2'.out.trans hx3)
  replace c0 := hx3.cell c0
  have hX3 := (Keep.of_ext (X := fun _ => False) hx3'.out).blk hX.out id
  have x0 : w3.cell? ⟨w.heap.size + 1, 0, none⟩ = some (.int .i64 a) := hX3.cell 0
  have x1 : w3.cell? ⟨w.heap.size + 1, 1, none⟩ = some (.int .i64 b) := hX3.cell 1
  have x2 : w3.cell? ⟨w.heap.size + 1, 2, none⟩ = some (.int .i64 c) := hX3.cell 2
  have x3 : w3.cell? ⟨w.heap.size + 1, 3, none⟩ = some (.int .i64 d) := hX3.cell 3
  clear hx3 hx2' hX3
  obtain ⟨cl, hcl⟩ : ∃ cl, Hid (clashT u a b c d = cl) := ⟨_, rfl⟩
  go_wp2_with fail
  refine (rClash_calls _ u a b c d w3 (hU.out.ext hx3'.out)).mono ?_
  rw [hcl.out]
  rintro e' w4 ⟨rfl, hx4⟩
  have hE4 := Lib.hid (hx3'.out.trans hx4)
  have hU4 := Lib.hid (hU.out.ext hE4.out)
  have hP4 := Lib.hid (hP.out.ext (hE.out.trans hE4.out))
  have z0 := After.cell (hx4.cell c0)
  have y0 := After.cell (hx4.cell x0)
  have y1 := After.cell (hx4.cell x1)
  have y2 := After.cell (hx4.cell x2)
  have y3 := After.cell (hx4.cell x3)
  have hV1 : Hid (∀ X, Ext w4 X → Calls Try.prog 26 #[.agg #[.slice uA u.length uC]] X fun e w' => e = .returned (.int .i64 (validT u)) ∧ Ext X w') := fun X hX => valid_calls _ u X (hU4.out.ext hX)
  have hV2 : Hid (∀ X, Ext w4 X → Calls Try.prog 27 #[.agg #[.slice uA u.length uC]] X fun e w' => e = .returned (.int .i64 (validT u)) ∧ Ext X w') := fun X hX => rValid_calls _ u X (hU4.out.ext hX)
  have hC1 : Hid (∀ X, Ext w4 X → Calls Try.prog 28 #[.agg #[.slice uA u.length uC], .int .i64 a, .int .i64 b, .int .i64 c, .int .i64 d] X fun e w' => e = .returned (.bool cl) ∧ Ext X w') := fun X hX => hcl.out ▸ clashP_calls _ u a b c d X (hU4.out.ext hX)
  have hL1 : Hid (∀ X, Ext w4 X → Calls Try.prog 29 #[.agg #[.slice uA u.length uC], .slice pa km pc] X fun e w' => e = .returned (.bool (lawfulB u p)) ∧ Ext X w') := fun X hX => lawful_calls _ _ u p X (hU4.out.ext hX) (hP4.out.ext hX)
  have hL2 : Hid (∀ X, Ext w4 X → Calls Try.prog 30 #[.agg #[.slice uA u.length uC], .slice pa km pc] X fun e w' => e = .returned (.bool (lawfulB u p)) ∧ Ext X w') := fun X hX => rLawful_calls _ _ u p X (hU4.out.ext hX) (hP4.out.ext hX)
  obtain ⟨vt, hvt⟩ : ∃ vt, Hid (validT u = vt) := ⟨_, rfl⟩
  obtain ⟨lt, hlt⟩ : ∃ lt, Hid (lawfulB u p = lt) := ⟨_, rfl⟩
  rw [hvt.out] at hV1 hV2
  rw [hlt.out] at hL1 hL2
  clear hvt hlt hh hcl c0 x0 x1 x2 x3 hx4 hx3'
  go_wp2_with fail
  refine wp_region_after (by kernel_rfl) (by kernel_rfl) ?_
  (repeat (go_big_quiet_step (first | (with_reducible exact After.call _ (hV1.out _ (After.ext _))) | (with_reducible exact After.call _ (hV2.out _ (After.ext _))) | (with_reducible exact After.call _ (hC1.out _ (After.ext _))) | (with_reducible exact After.call _ (hL1.out _ (After.ext _))) | (with_reducible exact After.call _ (hL2.out _ (After.ext _))))))
  with_reducible refine wpQuiet_nil ?_
  rintro _ ⟨y, rfl⟩
  have hy := y.ext
  generalize y.world = Y at hy ⊢
  clear z0 y0 y1 y2 y3
  go_wp2
  go_ret
  exact ⟨rfl, (hE.out.trans hE4.out).trans hy⟩
end Go.Proofs.Ytonmlmkemliefaa
