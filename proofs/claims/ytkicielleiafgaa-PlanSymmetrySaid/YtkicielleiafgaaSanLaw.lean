/- Merged parts: Example, San, Sanity. -/
import Derived.Test.YtkicielleiafgaaPJ
import Derived.Test.YtkicielleiafgaaPK
import Derived.Deep.Cut
/- The law's example: walked and read. -/
namespace Go.Proofs.Ytkicielleiafgaa
open Go.RowKit

def exampleT : List WishD := [⟨1, [4], [⟨0, 2, [(0, 60)]⟩, ⟨3, 2, [(60, 120)]⟩]⟩, ⟨2, [5], [⟨0, 2, [(30, 90)]⟩, ⟨5, 3, [(30, 90)]⟩]⟩]

theorem one_opt {w : World} {o : OptD} {sv : Value} {l : List OptD} {ys : List Value} (h : Spans w sv o.spans) (h' : OptsC w l ys) : OptsC w (o :: l) (.int .i64 o.harm :: .int .i64 o.room :: sv :: ys) := ⟨sv, ys, rfl, h, h'⟩
theorem one_wish {w : World} {x : WishD} {pv ov : Value} {l : List WishD} {ys : List Value} (h : Ints w pv x.people) (h1 : Opts w ov x.opts) (h' : WishesC w l ys) : WishesC w (x :: l) (.int .i64 x.meeting :: pv :: ov :: ys) := ⟨pv, ov, ys, rfl, ⟨h, h1⟩, h'⟩

theorem example_read {w : World} {t1 t2 t3 t4 : TypeId} (b : Nat) (h1 : Blk w (b + 1) t1 #[.int .i64 4]) (h2 : Blk w (b + 1 + 1) t2 #[.int .i64 0, .int .i64 60]) (h3 : Blk w (b + 1 + 1 + 1) t2 #[.int .i64 60, .int .i64 120])
    (h4 : Blk w (b + 1 + 1 + 1 + 1) t3 #[.int .i64 0, .int .i64 2, .slice (some ⟨b + 1 + 1, 0, none⟩) 1 1, .int .i64 3, .int .i64 2, .slice (some ⟨b + 1 + 1 + 1, 0, none⟩) 1 1])
    (h6 : Blk w (b + 1 + 1 + 1 + 1 + 1 + 1) t1 #[.int .i64 5]) (h7 : Blk w (b + 1 + 1 + 1 + 1 + 1 + 1 + 1) t2 #[.int .i64 30, .int .i64 90]) (h8 : Blk w (b + 1 + 1 + 1 + 1 + 1 + 1 + 1 + 1) t2 #[.int .i64 30, .int .i64 90])
    (h9 : Blk w (b + 1 + 1 + 1 + 1 + 1 + 1 + 1 + 1 + 1) t3 #[.int .i64 0, .int .i64 2, .slice (some ⟨b + 1 + 1 + 1 + 1 + 1 + 1 + 1, 0, none⟩) 1 1, .int .i64 5, .int .i64 3, .slice (some ⟨b + 1 + 1 + 1 + 1 + 1 + 1 + 1 + 1, 0, none⟩) 1 1])
    (h10 : Blk w (b + 1 + 1 + 1 + 1 + 1 + 1 + 1 + 1 + 1 + 1 + 1) t4 #[.int .i64 1, .slice (some ⟨b + 1, 0, none⟩) 1 1, .slice (some ⟨b + 1 + 1 + 1 + 1, 0, none⟩) 2 2, .int .i64 2, .slice (some ⟨b + 1 + 1 + 1 + 1 + 1 + 1, 0, none⟩) 1 1, .slice (some ⟨b + 1 + 1 + 1 + 1 + 1 + 1 + 1 + 1 + 1, 0, none⟩) 2 2]) :
    Wishes w (.slice (some ⟨b + 1 + 1 + 1 + 1 + 1 + 1 + 1 + 1 + 1 + 1 + 1, 0, none⟩) 2 2) exampleT := by
  have m1 : (1 : Nat) ≤ maxLen := by unfold maxLen; omega
  have m2 : (2 : Nat) ≤ maxLen := by unfold maxLen; omega
  have i1 := ints_of_blk (l := [4]) h1 (Nat.le_refl 1) m1
  have i2 := ints_of_blk (l := [5]) h6 (Nat.le_refl 1) m1
  have s1 := spans_of_blk (l := [(0, 60)]) h2 (Nat.le_refl 1) m1
  have s2 := spans_of_blk (l := [(60, 120)]) h3 (Nat.le_refl 1) m1
  have s3 := spans_of_blk (l := [(30, 90)]) h7 (Nat.le_refl 1) m1
  have s4 := spans_of_blk (l := [(30, 90)]) h8 (Nat.le_refl 1) m1
  have o1 := opts_of_c (l := [⟨0, 2, [(0, 60)]⟩, ⟨3, 2, [(60, 120)]⟩]) h4.row (one_opt s1 (one_opt s2 rfl)) (Nat.le_refl 2) m2
  have o2 := opts_of_c (l := [⟨0, 2, [(30, 90)]⟩, ⟨5, 3, [(30, 90)]⟩]) h9.row (one_opt s3 (one_opt s4 rfl)) (Nat.le_refl 2) m2
  exact wishes_of_c (l := exampleT) h10.row (one_wish i1 o1 (one_wish i2 o2 rfl)) (Nat.le_refl 2) m2

set_option maxHeartbeats 1600000 in
set_option maxRecDepth 100000 in
theorem example_calls (w : World) : Calls Try.prog 81 #[] w fun e w' => ∃ tv, e = .returned (.agg #[tv]) ∧ Wishes w' tv exampleT ∧ Ext w w' := by
  go_enter Try.func81, Try.ntmps81
  go_wp2
  refine bodyPost_ret (v := .agg #[.slice (some ⟨w.heap.size + 1 + 1 + 1 + 1 + 1 + 1 + 1 + 1 + 1 + 1 + 1, 0, none⟩) 2 2]) (by simp [results, Try.results81, go_sem]) rfl ?_
  refine ⟨_, rfl, ?_, by exact (by repeat' (first | (with_reducible exact Ext.refl _) | (with_reducible assumption) | (with_reducible refine Ext.drewN ?_ _) | (with_reducible refine Ext.drew ?_) | (with_reducible refine Ext.alloc ?_ _) | (with_reducible refine Ext.trans ?_ (by with_reducible assumption))))⟩
  refine example_read w.heap.size (t1 := 3) (t2 := 78) (t3 := 89) (t4 := 87) ?_ ?_ ?_ ?_ ?_ ?_ ?_ ?_ ?_
  all_goals repeat (first | (refine blk_new' ?_ rfl; simp only [World.size_alloc]; done) | refine Blk.alloc ?_ _)
end Go.Proofs.Ytkicielleiafgaa

namespace Go.Proofs.Ytkicielleiafgaa
open Go.RowKit
theorem ex_best : bestOf exampleT = some ([0, 1], 5) := by kernel_rfl
theorem ex_len : (growL exampleT 5 exampleT [] 0 0).nodes.length = 7 := by kernel_rfl
theorem ex_valid : validT exampleT = 0 := by kernel_rfl
theorem ex_c5 : checkT exampleT 5 (growL exampleT 5 exampleT [] 0 0).nodes = 0 := by kernel_rfl
theorem ex_c6 : checkT exampleT 6 (growL exampleT 5 exampleT [] 0 0).nodes = 11 := by kernel_rfl
theorem ex_o0 : checkT exampleT 0 [⟨-1, [], -1, 0⟩] = 0 := by kernel_rfl
theorem ex_o1 : checkT exampleT 1 [⟨-1, [], -1, 0⟩] = 11 := by kernel_rfl
theorem ex_cl0 : clashT exampleT 0 1 1 0 = true := by kernel_rfl
theorem ex_cl1 : clashT exampleT 0 1 1 1 = false := by kernel_rfl
theorem ex_law : lawfulB exampleT [0, 1] = true := by kernel_rfl
theorem ex_kidsB : ((growL exampleT 5 exampleT [] 0 0).nodes.all fun n => decide (n.kids.length ≤ 65536)) = true := by kernel_rfl
theorem ex_kids : ∀ n ∈ (growL exampleT 5 exampleT [] 0 0).nodes, n.kids.length ≤ 65536 := fun n hn => by simpa using List.all_eq_true.1 ex_kidsB n hn
theorem ex_max : treeMax exampleT ≤ 65536 := by decide
end Go.Proofs.Ytkicielleiafgaa

/- The law's sanity, walked: true. -/
namespace Go.Proofs.Ytkicielleiafgaa
open Go.RowKit

theorem ex_out {w w' : World} {e : Ending} (h : BestOut exampleT w e w') : ∃ pv cv, e = .returned (.tuple #[.agg #[pv, .int .i64 5], cv, .int .i64 0]) ∧ Ext w w' ∧ Ints w' pv [0, 1] ∧ Nodes w' cv (growL exampleT 5 exampleT [] 0 0).nodes := by
  obtain ⟨pv, cv, er, rfl, hx, h⟩ := h
  rcases h with ⟨h, _⟩ | ⟨_, ⟨b, h1, h2⟩, _⟩ | ⟨_, p, q, ⟨b, hb⟩, hp, hc, rfl⟩
  · exact absurd ex_valid h
  · have := bestRes_none h1 h2
    have e := ex_best
    rw [bestOf, this] at e
    cases e
  · have := (bestRes_some hb).1
    rw [ex_best] at this
    cases this
    exact ⟨pv, cv, rfl, hx, hp, hc⟩

set_option maxHeartbeats 1600000 in
set_option maxRecDepth 100000 in
theorem sanity_calls (w : World) : Calls Try.prog 40 #[] w fun e w' => e = .returned (.bool true) ∧ Ext w w' := by
  go_enter Try.func40, Try.ntmps40
  go_wp2_with fail
  refine (example_calls _).mono ?_
  rintro e w1 ⟨tv, rfl, ht, hx1⟩
  obtain ⟨ta, tc, rfl⟩ := ht.form
  rw [show exampleT.length = 2 from rfl] at ht ⊢
  go_wp2_with fail
  refine (best_calls (.slice ta 2 tc) exampleT _ (ht.ext (by exact (by repeat' (first | (with_reducible exact Ext.refl _) | (with_reducible assumption) | (with_reducible refine Ext.drewN ?_ _) | (with_reducible refine Ext.drew ?_) | (with_reducible refine Ext.alloc ?_ _) | (with_reducible refine Ext.trans ?_ (by with_reducible assumption)))))) (fun _ => ex_max)).mono ?_
  intro e w2 hb
  obtain ⟨pv, cv, rfl, hx2, hp, hc⟩ := ex_out hb
  obtain ⟨pa, pc, rfl⟩ := hp.form
  obtain ⟨ca, cc, rfl⟩ := hc.form
  rw [show ([0, 1] : List Int).length = 2 from rfl] at hp ⊢
  rw [ex_len] at hc ⊢
  obtain ⟨qa, qc, e, _, _, qat⟩ := hp.open
  cases e
  obtain ⟨b1, o1, y, rfl, hb1, _, ey, k0⟩ := qat 0 (by decide) _ (Ext.refl _)
  cases ey.out
  obtain ⟨b2, o2, z, e2, hb2, _, ez, k1⟩ := qat 1 (by decide) _ (Ext.refl _)
  cases e2
  cases ez.out
  have ht2 := Lib.hid ht
  have hp2 := Lib.hid hp
  have hc2 := Lib.hid hc
  have hxa := Lib.hid hx1
  have hxb := Lib.hid hx2
  have tb : w2.cell? ⟨w1.heap.size, 0, none⟩ = some (.slice ta 2 tc) := hx2.cell (by simp)
  clear hb ht hp hc hx1 hx2 qat
  go_upto_region 6 with (fail)
  refine wp_abs (S := fun W => Ext w2 W ∧ Blk W w2.heap.size 67 #[.slice (some ⟨b1, o1, none⟩) 2 pc, .int .i64 5] ∧ Blk W (w2.heap.size + 1) 139 #[.int .i64 (-1), .slice none 0 0, .int .i64 (-1), .int .i64 0]) ?_ ?_
  · exact ⟨by exact (by repeat' (first | (with_reducible exact Ext.refl _) | (with_reducible assumption) | (with_reducible refine Ext.drewN ?_ _) | (with_reducible refine Ext.drew ?_) | (with_reducible refine Ext.alloc ?_ _) | (with_reducible refine Ext.trans ?_ (by with_reducible assumption)))), (blk_new' rfl rfl).alloc _, blk_new' (by simp only [World.size_alloc]) rfl⟩
  rintro W ⟨hW, bp, bo⟩
  have hT := ht2.out.ext ((Ext.alloc (Ext.refl w1) _).trans (hxb.out.trans hW))
  have hN := hc2.out.ext hW
  have hP := hp2.out.ext hW
  have hO : Nodes W (.slice (some ⟨w2.heap.size + 1, 0, none⟩) 1 1) [⟨-1, [], -1, 0⟩] := by
    refine ⟨fun _ => .slice none 0 0, ⟨_, _, rfl, Nat.le_refl _, by decide, fun _ => ⟨_, _, rfl, bo.lt, fun i hi j hj => ?_⟩⟩, fun i hi => ?_⟩
    · simp at hi
      subst hi
      rw [bo.cell]
      match j, hj with
      | 0, _ => rfl
      | 1, _ => rfl
      | 2, _ => rfl
      | 3, _ => rfl
    · simp at hi
      subst hi
      exact ⟨none, 0, rfl, Nat.le_refl _, by decide, fun h => absurd h (by decide)⟩
  have hC5 : Hid (∀ X, Ext W X → Calls Try.prog 36 #[.agg #[.slice ta 2 tc], .int .i64 5, .slice ca 7 cc] X fun e w' => e = .returned (.int .i64 0) ∧ Ext X w') := fun X hX => by
    have := check_calls (.slice ta 2 tc) (.slice ca 7 cc) exampleT 5 _ X (hT.ext hX) (hN.ext hX) ex_kids
    rwa [ex_c5] at this
  have hC6 : Hid (∀ X, Ext W X → Calls Try.prog 36 #[.agg #[.slice ta 2 tc], .int .i64 6, .slice ca 7 cc] X fun e w' => e = .returned (.int .i64 11) ∧ Ext X w') := fun X hX => by
    have := check_calls (.slice ta 2 tc) (.slice ca 7 cc) exampleT 6 _ X (hT.ext hX) (hN.ext hX) ex_kids
    rwa [ex_c6] at this
  have hO0 : Hid (∀ X, Ext W X → Calls Try.prog 36 #[.agg #[.slice ta 2 tc], .int .i64 0, .slice (some ⟨w2.heap.size + 1, 0, none⟩) 1 1] X fun e w' => e = .returned (.int .i64 0) ∧ Ext X w') := fun X hX => by
    have := check_calls (.slice ta 2 tc) _ exampleT 0 _ X (hT.ext hX) (hO.ext hX) (by simp)
    rwa [ex_o0] at this
  have hO1 : Hid (∀ X, Ext W X → Calls Try.prog 36 #[.agg #[.slice ta 2 tc], .int .i64 1, .slice (some ⟨w2.heap.size + 1, 0, none⟩) 1 1] X fun e w' => e = .returned (.int .i64 11) ∧ Ext X w') := fun X hX => by
    have := check_calls (.slice ta 2 tc) _ exampleT 1 _ X (hT.ext hX) (hO.ext hX) (by simp)
    rwa [ex_o1] at this
  have hL0 : Hid (∀ X, Ext W X → Calls Try.prog 20 #[.agg #[.slice ta 2 tc], .int .i64 0, .int .i64 1, .int .i64 1, .int .i64 0] X fun e w' => e = .returned (.bool true) ∧ Ext X w') := fun X hX => by
    have := clashP_calls (.slice ta 2 tc) exampleT 0 1 1 0 X (hT.ext hX)
    rwa [ex_cl0] at this
  have hL1 : Hid (∀ X, Ext W X → Calls Try.prog 20 #[.agg #[.slice ta 2 tc], .int .i64 0, .int .i64 1, .int .i64 1, .int .i64 1] X fun e w' => e = .returned (.bool false) ∧ Ext X w') := fun X hX => by
    have := clashP_calls (.slice ta 2 tc) exampleT 0 1 1 1 X (hT.ext hX)
    rwa [ex_cl1] at this
  have hLw : Hid (∀ X, Ext W X → Calls Try.prog 46 #[.agg #[.slice ta 2 tc], .slice (some ⟨b1, o1, none⟩) 2 pc] X fun e w' => e = .returned (.bool true) ∧ Ext X w') := fun X hX => by
    have := lawful_calls (.slice ta 2 tc) (.slice (some ⟨b1, o1, none⟩) 2 pc) exampleT [0, 1] X (hT.ext hX) (hP.ext hX)
    rwa [ex_law] at this
  have hxx := Lib.hid (hxa.out.trans ((Ext.alloc (Ext.refl w1) _).trans (hxb.out.trans hW)))
  have z0 := After.cell (show W.cell? ⟨w2.heap.size, 0, none⟩ = some (.slice (some ⟨b1, o1, none⟩) 2 pc) from bp.cell 0)
  have z1 := After.cell (show W.cell? ⟨w2.heap.size, 1, none⟩ = some (.int .i64 5) from bp.cell 1)
  have z2 := After.cell (show W.cell? ⟨b1, o1, none⟩ = some (.int .i64 0) from hW.cell k0)
  have z3 := After.cell (hW.cell k1)
  have z4 := After.cell (hW.cell tb)
  clear hT hN hP hO bp bo hW tb k0 k1 ht2 hp2 hc2 hxa hxb ey ez
  refine wp_region_after0 ?_
  repeat (go_big_quiet_step (exact After.call _ (by first | (with_reducible exact hC5.out _ (After.ext _)) | (with_reducible exact hC6.out _ (After.ext _)) | (with_reducible exact hO0.out _ (After.ext _)) | (with_reducible exact hO1.out _ (After.ext _)) | (with_reducible exact hL0.out _ (After.ext _)) | (with_reducible exact hL1.out _ (After.ext _)) | (with_reducible exact hLw.out _ (After.ext _)))))
  refine wpQuiet_nil ?_
  rintro _ ⟨y, rfl⟩
  go_wp2
  go_ret
  exact ⟨rfl, hxx.out.trans y.ext⟩
end Go.Proofs.Ytkicielleiafgaa
