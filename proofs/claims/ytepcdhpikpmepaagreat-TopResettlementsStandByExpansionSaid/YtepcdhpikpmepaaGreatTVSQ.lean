/- Walk of sanity35. -/
import Derived.Test.YtepcdhpikpmepaaGreatTUQ
import Derived.Test.YtepcdhpikpmepaaGreatTSQ
import Derived.Test.YtepcdhpikpmepaaGreatCKQ
import Derived.Test.YtepcdhpikpmepaaGreatPKQ
namespace Go.Proofs.YtepcdhpikpmepaaGreat
open Go.RowKit Go.Shelf
attribute [local go_sem] Oper.semAt_some

theorem orderS_okS {t : List WishD} {p : List Int} (h : lawfulB t p = true) : orderS t p = (orderL t p, 0) := by
 unfold orderS
 rw [if_pos (lawful_parts h).1, if_pos h]
def xSan : RawS := ⟨0, 0, 0, 0, 0, 6, 1, 40, 3, []⟩
def sSan (m : Int) : StandD := ⟨m, 0, 0, 1, ⟨[⟨⟨[], 0, 1, [0]⟩, 660⟩], 60, []⟩⟩
def spSan : List (Int × Int) := (List.range 14).map fun (k : Nat) => (660 + 1440 * (k : Int), 720 + 1440 * (k : Int))
def oSan : List OptD := [⟨0, 0, spSan⟩, ⟨3, 1, spSan⟩, ⟨3, 2, spSan⟩, ⟨40, -1, []⟩]
def tSan : List WishD := [⟨1, [], oSan⟩, ⟨2, [], oSan⟩]
theorem xSan_is : standT xSan = sSan 1 := by rfl
theorem xSan_ok : RawSOk xSan := by
 have b : ∀ n : Nat, n ≤ 255 → byteB (n : Int) := fun n h => ⟨by omega, by omega⟩
 exact ⟨b 0 (by decide), b 0 (by decide), b 0 (by decide), b 0 (by decide), b 0 (by decide), b 6 (by decide), b 1 (by decide), b 40 (by decide), b 3 (by decide), fun y h => by cases h⟩
theorem san_task : taskS [sSan 1, sSan 2] = tSan := by decide +kernel
theorem san_valid : validT tSan = 0 := by decide +kernel
theorem san_tree : treeMax tSan ≤ 65536 := by decide +kernel
theorem san_best : bestOf tSan = some ([0, 1], 3) := by decide +kernel
theorem san_order : (orderL tSan [0, 1]).length = 1 := by decide +kernel
theorem sSan_ok (m : Int) : StandOk (sSan m) := by
 refine ⟨⟨Nat.le_refl _, fun c hc => ?_, (by show (1 : Int) ≤ 60; decide), (by show (60 : Int) ≤ 10080; decide), (by show (0 : Nat) ≤ 40; decide), fun x h => (by cases h), List.Pairwise.nil⟩, (by show (0 : Nat) ≤ 3; decide), (by show (0 : Int) ≤ 0; decide), (by show (0 : Int) ≤ 2; decide)⟩
 obtain rfl : c = ⟨⟨[], 0, 1, [0]⟩, 660⟩ := by simpa [sSan] using hc
 exact ⟨⟨rfl, by decide, by decide, by decide, by decide, by decide, by decide, rfl⟩, by decide, by decide⟩
theorem stands2 {W : World} {g : Nat} {cv ev : Value} (hb : Blk W g 52 #[.int .i64 1, .int .i64 0, .int .i64 0, .int .i64 1, cv, .int .i64 60, ev, .int .i64 2, .int .i64 0, .int .i64 0, .int .i64 1, cv, .int .i64 60, ev]) (hc : Classes W cv (sSan 1).stream.classes) (he : Insts W ev []) :
  StandsL W (.slice (some ⟨g, 0, none⟩) 2 2) [sSan 1, sSan 2] := by
 refine ⟨fun _ => cv, fun _ => ev, sl_of_blk (n := 2) (c := 2) hb (Nat.le_refl _) (by unfold maxLen; omega) (fun i hi j hj => ?_), fun i hi => ?_⟩
 ·obtain rfl | rfl : i = 0 ∨ i = 1 := by omega
  all_goals
   obtain rfl | rfl | rfl | rfl | rfl | rfl | rfl : j = 0 ∨ j = 1 ∨ j = 2 ∨ j = 3 ∨ j = 4 ∨ j = 5 ∨ j = 6 := by omega
   all_goals rfl
 ·obtain rfl | rfl : i = 0 ∨ i = 1 := by simp at hi; omega
  all_goals exact ⟨hc, he⟩
set_option maxHeartbeats 6400000 in
set_option maxRecDepth 100000 in
theorem sanity35_calls (w : World) : Calls Tryz.prog 4 #[] w fun e w' => e = .returned (.bool true) ∧ Ext w w' := by
 go_enter Tryz.func4, Tryz.ntmps4
 go_wp2_with fail
 refine (madeStand_calls _ xSan w ⟨.slice none 0 0, rfl, ⟨⟨none, 0, rfl, Nat.le_refl _, by unfold maxLen; omega, fun h => absurd h (by simp [xSan])⟩, fun x h => (by cases h)⟩, xSan_ok⟩).mono ?_
 rintro e w1 ⟨v', rfl, hv, hx1⟩
 rw [xSan_is] at hv
 obtain ⟨cv, ev, rfl, hc, he⟩ : ∃ cv ev, v' = .agg #[.int .i64 1, .int .i64 0, .int .i64 0, .int .i64 1, cv, .int .i64 60, ev] ∧ Classes w1 cv (sSan 1).stream.classes ∧ Insts w1 ev [] := hv
 have hc' := Lib.hid hc
 have he' := Lib.hid he
 have hx1' := Lib.hid hx1
 obtain ⟨ca, cc, rfl, _, _, _⟩ := hc.open
 obtain ⟨ea, ec, rfl⟩ := he.form
 obtain ⟨cn, hcn⟩ : ∃ cn, Hid ((sSan 1).stream.classes.length = cn) := ⟨_, rfl⟩
 rw [hcn.out] at hc' ⊢
 simp only [List.length_nil] at he' ⊢
 clear hc he hx1
 go_upto_region 4 with (fail)
 refine wp_abs (S := fun W => Hid (Ext w1 W) ∧ Hid (Blk W w1.heap.size 52 #[.int .i64 1, .int .i64 0, .int .i64 0, .int .i64 1, .slice ca cn cc, .int .i64 60, .slice ea 0 ec]) ∧ Hid (Blk W (w1.heap.size + 1) 52 #[.int .i64 2, .int .i64 0, .int .i64 0, .int .i64 1, .slice ca cn cc, .int .i64 60, .slice ea 0 ec])) ?_ ?_
 ·exact ⟨Lib.hid (by exact (by with_reducible repeat' (first | exact Ext.refl _ | assumption | refine Ext.drewN ?_ _ | refine Ext.drew ?_ | refine Ext.alloc ?_ _ | refine Ext.trans ?_ (by with_reducible assumption)))), Lib.hid (Blk.alloc (blk_new' rfl rfl) _), Lib.hid (blk_new' (by simp) rfl)⟩
 rintro w2 ⟨hx2, hA2, hB2⟩
 have a0 : w2.cell? ⟨w1.heap.size, 0, none⟩ = some (.int .i64 1) := hA2.out.cell 0
 have a1 : w2.cell? ⟨w1.heap.size, 1, none⟩ = some (.int .i64 0) := hA2.out.cell 1
 have a2 : w2.cell? ⟨w1.heap.size, 2, none⟩ = some (.int .i64 0) := hA2.out.cell 2
 have a3 : w2.cell? ⟨w1.heap.size, 3, none⟩ = some (.int .i64 1) := hA2.out.cell 3
 have a4 : w2.cell? ⟨w1.heap.size, 4, none⟩ = some (.slice ca cn cc) := hA2.out.cell 4
 have a5 : w2.cell? ⟨w1.heap.size, 5, none⟩ = some (.int .i64 60) := hA2.out.cell 5
 have a6 : w2.cell? ⟨w1.heap.size, 6, none⟩ = some (.slice ea 0 ec) := hA2.out.cell 6
 have al := hA2.out.lt
 have b0 : w2.cell? ⟨w1.heap.size + 1, 0, none⟩ = some (.int .i64 2) := hB2.out.cell 0
 have b1 : w2.cell? ⟨w1.heap.size + 1, 1, none⟩ = some (.int .i64 0) := hB2.out.cell 1
 have b2 : w2.cell? ⟨w1.heap.size + 1, 2, none⟩ = some (.int .i64 0) := hB2.out.cell 2
 have b3 : w2.cell? ⟨w1.heap.size + 1, 3, none⟩ = some (.int .i64 1) := hB2.out.cell 3
 have b4 : w2.cell? ⟨w1.heap.size + 1, 4, none⟩ = some (.slice ca cn cc) := hB2.out.cell 4
 have b5 : w2.cell? ⟨w1.heap.size + 1, 5, none⟩ = some (.int .i64 60) := hB2.out.cell 5
 have b6 : w2.cell? ⟨w1.heap.size + 1, 6, none⟩ = some (.slice ea 0 ec) := hB2.out.cell 6
 have bl := hB2.out.lt
 have hq2 := Lib.hid ((Ext.refl w2).alloc (.cells #[.int .i64 1, .int .i64 0, .int .i64 0, .int .i64 1, .slice ca cn cc, .int .i64 60, .slice ea 0 ec, .int .i64 2, .int .i64 0, .int .i64 0, .int .i64 1, .slice ca cn cc, .int .i64 60, .slice ea 0 ec] 52))
 go_wp2_with fail
 refine (task35_calls _ [sSan 1, sSan 2] _ (stands2 (blk_new' rfl rfl) (hc'.out.ext (hx2.out.trans hq2.out)) (he'.out.ext (hx2.out.trans hq2.out))) (fun x hx => ?_) (by decide)).mono ?_
 ·obtain rfl | rfl : x = sSan 1 ∨ x = sSan 2 := by simpa using hx
  ·exact sSan_ok 1
  ·exact sSan_ok 2
 rintro e w3 ⟨tv, rfl, ht, hx3⟩
 rw [san_task] at ht
 have hT := Lib.hid ht
 obtain ⟨ta, tc, rfl⟩ := ht.form
 have hE3 := Lib.hid (hx1'.out.trans (hx2.out.trans (hq2.out.trans hx3)))
 obtain ⟨tn, htn⟩ : ∃ n, Hid (tSan.length = n) := ⟨_, rfl⟩
 rw [htn.out] at hT ⊢
 clear ht hx3 a0 a1 a2 a3 a4 a5 a6 al b0 b1 b2 b3 b4 b5 b6 bl hA2 hB2 hq2 hx2 hc' he' hx1'
 go_wp2_with fail
 have hq3 := Lib.hid ((Ext.refl w3).alloc (.cells #[.slice ta tn tc] 28))
 refine (best_calls _ tSan _ (hT.out.ext hq3.out) (fun _ => san_tree)).mono ?_
 intro e w4 hb
 rcases best_out san_valid hb with ⟨h1, _, _⟩ | ⟨pv, cv, p, q, hq, rfl, hx4, hp, hcert⟩
 ·have := san_best
  rw [bestOf, h1] at this
  cases this
 rw [san_best] at hq
 cases hq
 have hB4 : Hid (Blk w4 w3.heap.size 28 #[.slice ta tn tc]) := Lib.hid ((Keep.of_ext (X := fun _ => False) hx4).blk (blk_new' rfl rfl) id)
 have hE4 := Lib.hid (hE3.out.trans (hq3.out.trans hx4))
 have hT4 := Lib.hid (hT.out.ext (hq3.out.trans hx4))
 have hN4 := Lib.hid hcert
 have hP4 := Lib.hid hp
 obtain ⟨pa, pc, rfl⟩ := hp.form
 obtain ⟨na, nc, rfl⟩ := hcert.form
 obtain ⟨LN, hLN⟩ : ∃ LN, Hid ((growL tSan 3 tSan [] 0 0).nodes.length = LN) := ⟨_, rfl⟩
 rw [hLN.out] at hN4 ⊢
 simp only [List.length_cons, List.length_nil] at hP4 ⊢
 clear hb hx4 hcert hp hq3 hT hE3
 go_upto_region 6 with (fail)
 refine wp_abs (S := fun W => Hid (Ext w4 W) ∧ Hid (Blk W w3.heap.size 28 #[.slice ta tn tc]) ∧ Hid (Blk W w4.heap.size 33 #[.slice pa 2 pc, .int .i64 3])) ?_ ?_
 ·exact ⟨Lib.hid (by exact (by with_reducible repeat' (first | exact Ext.refl _ | assumption | refine Ext.drewN ?_ _ | refine Ext.drew ?_ | refine Ext.alloc ?_ _ | refine Ext.trans ?_ (by with_reducible assumption)))), Lib.hid (Blk.alloc hB4.out _), Lib.hid (blk_new' rfl rfl)⟩
 rintro w5 ⟨hx5, hB5, hP5⟩
 have c0 : w5.cell? ⟨w3.heap.size, 0, none⟩ = some (.slice ta tn tc) := hB5.out.cell 0
 have l0 := hB5.out.lt
 have p0 : w5.cell? ⟨w4.heap.size, 0, none⟩ = some (.slice pa 2 pc) := hP5.out.cell 0
 have pl := hP5.out.lt
 go_wp2_with fail
 refine (order_calls _ _ tSan [0, 1] w5 (hT4.out.ext hx5.out) (hP4.out.ext hx5.out)).mono ?_
 rw [orderS_okS (bestOf_spec san_valid san_best).1]
 rintro e w6 ⟨sv, rfl, hst, hx6⟩
 obtain ⟨sa, sc, rfl⟩ := hst.read.form
 dsimp only at hst ⊢
 rw [san_order] at hst ⊢
 have hB6 := Lib.hid ((Keep.of_ext (X := fun _ => False) hx6).blk hB5.out id)
 have hP6 := Lib.hid ((Keep.of_ext (X := fun _ => False) hx6).blk hP5.out id)
 have c6 : w6.cell? ⟨w3.heap.size, 0, none⟩ = some (.slice ta tn tc) := hB6.out.cell 0
 have l6 := hB6.out.lt
 have p6 : w6.cell? ⟨w4.heap.size, 1, none⟩ = some (.int .i64 3) := hP6.out.cell 1
 have pl6 := hP6.out.lt
 have hq6 := Lib.hid (hx5.out.trans hx6)
 clear hst hx6 hB5 hP5 c0 l0 p0 pl
 go_wp2_with fail
 refine (check_calls _ _ tSan 3 _ w6 (hT4.out.ext hq6.out) (hN4.out.ext hq6.out) (fun n hn => ?_)).mono ?_
 ·have := growL_kids tSan 3 4 tSan (fun x hx => by
   obtain rfl | rfl : x = ⟨1, [], oSan⟩ ∨ x = ⟨2, [], oSan⟩ := by simpa [tSan] using hx
   ·decide
   ·decide) [] 0 0 n hn
  omega
 rw [cert_small san_valid san_tree san_best (Int.le_refl _)]
 rintro e w7 ⟨rfl, hx7⟩
 have hE7 := Lib.hid (hE4.out.trans (hq6.out.trans hx7))
 clear hx7
 go_wp2
 go_ret
 exact ⟨rfl, hE7.out⟩
end Go.Proofs.YtepcdhpikpmepaaGreat
