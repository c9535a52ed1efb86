import Derived.Test.YtepcdhpikpmepaaGreatTAQ
import Derived.Test.YtepcdhpikpmepaaGreatYSBQ
import Derived.Laws.ResultCell
namespace Go.Proofs.YtepcdhpikpmepaaGreat
open Go.RowKit Go.Shelf

theorem mul64_calls (x y : Nat) (hx : x ≤ 1000000) (hy : y ≤ 1000000) (w : World) :
  Calls Tryz.prog 136 #[.int .u64 (x : Int), .int .u64 (y : Int)] w fun e w' => e = .returned (.tuple #[.int .u64 0, .int .u64 ((x * y : Nat) : Int)]) ∧ Ext w w' := by
 have hm : x * y ≤ 1000000 * 1000000 := Nat.mul_le_mul hx hy
 refine (Any.bits_Mul64 Tryz.laysMulYtepcdhpikpmepaaGreat x y (by omega) (by omega) w).mono ?_
 rintro e w' ⟨rfl, rfl⟩
 rw [show x * y / 18446744073709551616 = 0 by omega, show x * y % 18446744073709551616 = x * y by omega]
 exact ⟨rfl, Ext.refl _⟩
theorem magnitude_calls (x : Nat) (hx : x ≤ 1000000) (w : World) :
  Calls Tryz.prog 135 #[.int .i64 (x : Int)] w fun e w' => e = .returned (.int .u64 (x : Int)) ∧ Ext w w' := by
 have d1 : decide ((x : Int) < 0) = false := decide_eq_false (by omega)
 have hw : IntKind.u64.wrap (x : Int) = (x : Int) := by rw [IntKind.wrap_u64]; omega
 go_enter Tryz.func135, Tryz.ntmps135
 go_wp2
 go_ret
 first
 | exact ⟨rfl, Ext.refl _⟩
 | (rw [hw]; exact ⟨rfl, Ext.refl _⟩)
set_option maxHeartbeats 800000 in
theorem gcd1_calls (q : Nat) (hq : q ≤ 1000000) (w : World) :
  Calls Tryz.prog 127 #[.int .i64 1, .int .i64 (q : Int)] w fun e w' => e = .returned (.int .i64 1) ∧ Ext w w' := by
 have hm1 := Lib.hid (magnitude_calls 1 (by omega))
 have hmq := Lib.hid (magnitude_calls q hq)
 go_enter Tryz.func127, Tryz.ntmps127
 go_wp2_with fail
 refine (hm1.out _).mono ?_
 rintro e w1 ⟨rfl, hx1⟩
 have hx1' := Lib.hid hx1
 clear hx1
 go_wp2_with fail
 refine (hmq.out _).mono ?_
 rintro e w2 ⟨rfl, hx2⟩
 have hx2' := Lib.hid (hx1'.out.trans hx2)
 clear hx2 hx1' hm1 hmq
 go_wp2_with fail
 go_loopw [5, 6] (fun vx vy wr => ∃ x y : Nat, vx = .int .u64 (x : Int) ∧ vy = .int .u64 (y : Int) ∧ x ≤ 1000000 ∧ y ≤ 1000000 ∧ Hid (Nat.gcd x y = 1) ∧ Hid (Ext w wr)) (fun _ vy _ => (intOf vy).toNat)
 case atStart => exact ⟨1, q, by first | rfl | simp, rfl, by omega, hq, Lib.hid (Nat.gcd_one_left q), hx2'⟩
 case round =>
  clear hx2'
  obtain ⟨x, y, rfl, rfl, hx, hy, hg, hE⟩ := hrel
  by_cases y0 : y = 0
  ·have x1 : x = 1 := by have := hg.out; rw [y0, Nat.gcd_zero_right] at this; exact this
   subst y0 x1
   clear hg
   go_wp2
   go_ret
   exact ⟨rfl, hE.out⟩
  ·have d1 : ((y : Int) != 0) = true := by simp [y0]
   obtain ⟨r, hr⟩ : ∃ r, Hid (x % y = r) := ⟨_, rfl⟩
   have hrl : r < y := by rw [← hr.out]; exact Nat.mod_lt _ (by omega)
   have hrem : (x : Int).tmod (y : Int) = (r : Int) := by rw [← hr.out]; rfl
   have hg2 : Hid (Nat.gcd y r = 1) := Lib.hid (by rw [← hr.out, Nat.gcd_comm, ← Nat.gcd_rec, Nat.gcd_comm]; exact hg.out)
   clear hg hr
   go_upto_region 3 with (fail)
   refine wp_region_after (by kernel_rfl) (by kernel_rfl) ?_
   repeat (go_big_quiet_step (fail))
   refine wpQuiet_nil ?_
   rintro _ ⟨u, rfl⟩
   have hu := Lib.hid (hE.out.trans u.ext)
   generalize u.world = V at hu ⊢
   go_wp2
   go_roundw
   case rel => first | exact ⟨y, r, rfl, rfl, hy, by omega, hg2, hu⟩ | ((repeat apply Exists.intro); exact ⟨⟨y, r, rfl, rfl, hy, by omega, hg2, hu⟩, rfl⟩)
   case measure => simp [intOf]; omega
theorem inverse1_calls (n : Nat) (h2 : 2 ≤ n) (hn : n ≤ 1000000) (w : World) :
  Calls Tryz.prog 137 #[.int .i64 1, .int .i64 (n : Int)] w fun e w' => e = .returned (.int .i64 1) ∧ Ext w w' := by
 have n0 : ((n : Int) == 0) = false := by rw [beq_eq_false_iff_ne]; omega
 have m1 : (1 : Int).tmod (n : Int) = 1 := Int.tmod_eq_of_lt (by omega) (by omega)
 have m2 : (1 + (n : Int)).tmod (n : Int) = 1 := by
  rw [Int.tmod_eq_emod_of_nonneg (by omega), Int.add_emod_right, Int.emod_eq_of_lt (by omega) (by omega)]
 have w1 : wrap64 (1 + (n : Int)) = 1 + (n : Int) := by unfold wrap64; omega
 go_enter Tryz.func137, Tryz.ntmps137
 go_wp2_with fail
 go_loopw [5, 6, 7, 8, 9] (fun vx vy vu vv _ wr => vx = .int .i64 1 ∧ vy = .int .i64 (n : Int) ∧ vu = .int .i64 1 ∧ vv = .int .i64 0 ∧ Hid (Ext w wr)) (fun _ _ _ _ _ _ => 0)
 case atStart => exact ⟨rfl, rfl, rfl, rfl, Lib.hid (by exact (by with_reducible repeat' (first | exact Ext.refl _ | assumption | refine Ext.drewN ?_ _ | refine Ext.drew ?_ | refine Ext.alloc ?_ _ | refine Ext.trans ?_ (by with_reducible assumption))))⟩
 case round =>
  obtain ⟨rfl, rfl, rfl, rfl, hE⟩ := hrel
  go_wp2
  go_ret
  exact ⟨rfl, hE.out⟩
set_option maxHeartbeats 800000 in
theorem div64_calls (x y : Nat) (hx : x ≤ 1000000) (hy : 1 ≤ y) (hy2 : y ≤ 1000000) (w : World) :
  Calls Tryz.prog 138 #[.int .u64 0, .int .u64 (x : Int), .int .u64 (y : Int)] w fun e w' => e = .returned (.tuple #[.int .u64 ((x / y : Nat) : Int), .int .u64 ((x % y : Nat) : Int)]) ∧ Ext w w' := by
 have n0 : ((y : Int) == 0) = false := by rw [beq_eq_false_iff_ne]; omega
 have d1 : decide ((y : Int) ≤ 0) = false := decide_eq_false (by omega)
 have hq : (x : Int).tdiv (y : Int) = ((x / y : Nat) : Int) := rfl
 have hr : (x : Int).tmod (y : Int) = ((x % y : Nat) : Int) := rfl
 obtain ⟨q, hqd⟩ : ∃ q, x / y = q := ⟨_, rfl⟩
 obtain ⟨r, hrd⟩ : ∃ r, x % y = r := ⟨_, rfl⟩
 rw [hqd] at hq ⊢
 rw [hrd] at hr ⊢
 have hqb : q ≤ 1000000 := by rw [← hqd]; exact Nat.le_trans (Nat.div_le_self _ _) hx
 have hw : IntKind.u64.wrap (q : Int) = (q : Int) := by rw [IntKind.wrap_u64]; omega
 clear hqd hrd
 go_enter Tryz.func138, Tryz.ntmps138
 go_upto_region 6 with (fail)
 refine wp_region_after (by kernel_rfl) (by kernel_rfl) ?_
 repeat (go_big_quiet_step (fail))
 refine wpQuiet_nil ?_
 rintro _ ⟨u, rfl⟩
 have hu := Lib.hid u.ext
 generalize u.world = V at hu ⊢
 go_wp2
 go_ret2
 exact ⟨rfl, hu.out⟩
end Go.Proofs.YtepcdhpikpmepaaGreat
namespace Go.Proofs.YtepcdhpikpmepaaGreat
open Go.RowKit Go.Shelf

def meetD (r P : Nat) : Nat × Nat := if P = 1 then (0, 1) else (r, P)
theorem classMeet_results {tmps : Array Value} {w : World} {g : Nat} {a b : Int} (hp : tmps.getD 6 undef = .pointer (some ⟨g, 0, none⟩)) (hb : Blk w g 209 #[.int .i64 a, .int .i64 b]) :
  (results Tryz.f130 tmps).run Tryz.prog w = .ok (.tuple #[.agg #[.int .i64 a, .int .i64 b], tmps.getD 7 undef]) w := by
 have hp' : tmps[6]?.getD undef = .pointer (some ⟨g, 0, none⟩) := by simpa using hp
 rw [results_cell_tmp Tryz.results130]
 simp [hp', asAddr, run_loadVar_row w g 209 209 #[.int .i64 a, .int .i64 b] (0, 0) _ hb Tryz.underlying209 rfl (by kernel_rfl), Result.andThen]
set_option maxHeartbeats 3200000 in
set_option maxRecDepth 100000 in
theorem classMeet_calls (r P : Nat) (hP : 1 ≤ P) (hP2 : P ≤ 1000) (hr : r < P) (w : World) :
  Calls Tryz.prog 130 #[.agg #[.int .i64 0, .int .i64 1], .int .i64 (r : Int), .int .i64 (P : Int)] w fun e w' => e = .returned (.tuple #[.agg #[.int .i64 ((meetD r P).1 : Int), .int .i64 ((meetD r P).2 : Int)], .bool true]) ∧ Ext w w' := by
 have hg := Lib.hid (gcd1_calls P (by omega))
 by_cases h1 : P = 1
 ·obtain rfl : r = 0 := by omega
  subst h1
  clear hP hP2 hr
  go_enter Tryz.func130, Tryz.ntmps130
  go_wp2_with fail
  refine (hg.out _).mono ?_
  rintro e w1 ⟨rfl, hx1⟩
  have k1 := Keep.of_ext (X := fun _ => False) hx1
  have hC : Hid (Blk w1 w.heap.size 209 #[.int .i64 0, .int .i64 1]) := Lib.hid (k1.blk (Blk.alloc (blk_new' rfl rfl) _) id)
  have hR : Hid (Blk w1 (w.heap.size + 1) 209 #[.int .i64 0, .int .i64 0]) := Lib.hid (k1.blk (blk_new' (by simp) rfl) id)
  have hE := Lib.hid (show Ext w w1 from Ext.trans (by exact (by with_reducible repeat' (first | exact Ext.refl _ | assumption | refine Ext.drewN ?_ _ | refine Ext.drew ?_ | refine Ext.alloc ?_ _ | refine Ext.trans ?_ (by with_reducible assumption)))) hx1)
  have c0 : w1.cell? ⟨w.heap.size, 0, none⟩ = some (.int .i64 0) := hC.out.cell 0
  have c1 : w1.cell? ⟨w.heap.size, 1, none⟩ = some (.int .i64 1) := hC.out.cell 1
  have l0 := hC.out.lt
  have r0 : w1.cell? ⟨w.heap.size + 1, 0, none⟩ = some (.int .i64 0) := hR.out.cell 0
  have r1 : w1.cell? ⟨w.heap.size + 1, 1, none⟩ = some (.int .i64 0) := hR.out.cell 1
  have f0 := hR.out.frozen 0
  have f1 := hR.out.frozen 1
  have l1 := hR.out.lt
  clear k1 hx1 hg
  go_wp2
  refine bodyPost_ret (classMeet_results rfl ((hR.out.set_ 0 (.int .i64 0)).set_ 1 (.int .i64 1))) rfl ?_
  exact ⟨rfl, ((hE.out.setCell (p := ⟨w.heap.size + 1, 0, none⟩) (by show w.heap.size ≤ w.heap.size + 1; omega) _).setCell (p := ⟨w.heap.size + 1, 1, none⟩) (by show w.heap.size ≤ w.heap.size + 1; omega) _)⟩
 ·have hi := Lib.hid (inverse1_calls P (by omega) (by omega))
  have hm1 := Lib.hid (mul64_calls r 1 (by omega) (by omega))
  have hd := Lib.hid (div64_calls r P (by omega) hP (by omega))
  have hm2 := Lib.hid (mul64_calls 1 P (by omega) (by omega))
  rw [Nat.mul_one] at hm1
  rw [Nat.one_mul] at hm2
  rw [Nat.div_eq_of_lt hr, Nat.mod_eq_of_lt hr] at hd
  have hmd : Hid (meetD r P = (r, P)) := Lib.hid (if_neg h1)
  rw [hmd.out]
  have t1 : (r : Int).tmod (P : Int) = (r : Int) := Int.tmod_eq_of_lt (by omega) (by omega)
  have t2 : ((r : Int) + (P : Int)).tmod (P : Int) = (r : Int) := by
   rw [Int.tmod_eq_emod_of_nonneg (by omega), Int.add_emod_right, Int.emod_eq_of_lt (by omega) (by omega)]
  have n0 : ((P : Int) == 0) = false := by rw [beq_eq_false_iff_ne]; omega
  have n1 : ((P : Int) == 1) = false := by rw [beq_eq_false_iff_ne]; omega
  have w1 : wrap64 ((r : Int) + (P : Int)) = (r : Int) + (P : Int) := by unfold wrap64; omega
  have w2 : IntKind.u64.wrap (r : Int) = (r : Int) := by rw [IntKind.wrap_u64]; omega
  have w3 : IntKind.u64.wrap (P : Int) = (P : Int) := by rw [IntKind.wrap_u64]; omega
  have w4 : wrap64 (r : Int) = (r : Int) := by unfold wrap64; omega
  have w5 : wrap64 (P : Int) = (P : Int) := by unfold wrap64; omega
  have d1 : decide ((1152921504606846976 : Int) < (r : Int)) = false := decide_eq_false (by omega)
  have d2 : decide ((P : Int) ≤ 1152921504606846976) = true := decide_eq_true (by omega)
  clear h1 hmd hr
  go_enter Tryz.func130, Tryz.ntmps130
  go_wp2_with fail
  refine (hg.out _).mono ?_
  rintro e v1 ⟨rfl, hx1⟩
  have k1 := Keep.of_ext (X := fun _ => False) hx1
  have hC : Hid (Blk v1 w.heap.size 209 #[.int .i64 0, .int .i64 1]) := Lib.hid (k1.blk (Blk.alloc (blk_new' rfl rfl) _) id)
  have hR : Hid (Blk v1 (w.heap.size + 1) 209 #[.int .i64 0, .int .i64 0]) := Lib.hid (k1.blk (blk_new' (by simp) rfl) id)
  have hE := Lib.hid (show Ext w v1 from Ext.trans (by exact (by with_reducible repeat' (first | exact Ext.refl _ | assumption | refine Ext.drewN ?_ _ | refine Ext.drew ?_ | refine Ext.alloc ?_ _ | refine Ext.trans ?_ (by with_reducible assumption)))) hx1)
  have c0 : v1.cell? ⟨w.heap.size, 0, none⟩ = some (.int .i64 0) := hC.out.cell 0
  have c1 : v1.cell? ⟨w.heap.size, 1, none⟩ = some (.int .i64 1) := hC.out.cell 1
  have l0 := hC.out.lt
  clear k1 hx1 hg
  go_wp2_with fail
  refine (hi.out _).mono ?_
  rintro e v2 ⟨rfl, hx1⟩
  replace hC := Lib.hid ((Keep.of_ext (X := fun _ => False) hx1).blk hC.out id)
  replace hR := Lib.hid ((Keep.of_ext (X := fun _ => False) hx1).blk hR.out id)
  replace hE := Lib.hid (hE.out.trans hx1)
  clear c0 c1 l0 hx1
  have c0 : v2.cell? ⟨w.heap.size, 0, none⟩ = some (.int .i64 0) := hC.out.cell 0
  have c1 : v2.cell? ⟨w.heap.size, 1, none⟩ = some (.int .i64 1) := hC.out.cell 1
  have l0 := hC.out.lt
  go_wp2_with fail
  refine (hm1.out _).mono ?_
  rintro e v3 ⟨rfl, hx1⟩
  replace hC := Lib.hid ((Keep.of_ext (X := fun _ => False) hx1).blk hC.out id)
  replace hR := Lib.hid ((Keep.of_ext (X := fun _ => False) hx1).blk hR.out id)
  replace hE := Lib.hid (hE.out.trans hx1)
  clear c0 c1 l0 hx1
  have c0 : v3.cell? ⟨w.heap.size, 0, none⟩ = some (.int .i64 0) := hC.out.cell 0
  have c1 : v3.cell? ⟨w.heap.size, 1, none⟩ = some (.int .i64 1) := hC.out.cell 1
  have l0 := hC.out.lt
  go_wp2_with fail
  refine (hd.out _).mono ?_
  rintro e v4 ⟨rfl, hx1⟩
  replace hC := Lib.hid ((Keep.of_ext (X := fun _ => False) hx1).blk hC.out id)
  replace hR := Lib.hid ((Keep.of_ext (X := fun _ => False) hx1).blk hR.out id)
  replace hE := Lib.hid (hE.out.trans hx1)
  clear c0 c1 l0 hx1
  have c0 : v4.cell? ⟨w.heap.size, 0, none⟩ = some (.int .i64 0) := hC.out.cell 0
  have c1 : v4.cell? ⟨w.heap.size, 1, none⟩ = some (.int .i64 1) := hC.out.cell 1
  have l0 := hC.out.lt
  go_wp2_with fail
  refine (hm1.out _).mono ?_
  rintro e v5 ⟨rfl, hx1⟩
  replace hC := Lib.hid ((Keep.of_ext (X := fun _ => False) hx1).blk hC.out id)
  replace hR := Lib.hid ((Keep.of_ext (X := fun _ => False) hx1).blk hR.out id)
  replace hE := Lib.hid (hE.out.trans hx1)
  clear c0 c1 l0 hx1
  have c0 : v5.cell? ⟨w.heap.size, 0, none⟩ = some (.int .i64 0) := hC.out.cell 0
  have c1 : v5.cell? ⟨w.heap.size, 1, none⟩ = some (.int .i64 1) := hC.out.cell 1
  have l0 := hC.out.lt
  have hR5 := Lib.hid (show w.heap.size + 1 < v5.heap.size from hR.out.lt)
  go_upto_region 16 with (fail)
  refine wp_abs (S := fun W => Hid (Ext v5 W) ∧ Hid (Blk W v5.heap.size 209 #[.int .i64 (r : Int), .int .i64 0])) ?_ ?_
  ·exact ⟨Lib.hid (by exact (by with_reducible repeat' (first | exact Ext.refl _ | assumption | refine Ext.drewN ?_ _ | refine Ext.drew ?_ | refine Ext.alloc ?_ _ | refine Ext.trans ?_ (by with_reducible assumption)))), Lib.hid (blk_new' rfl rfl)⟩
  rintro v6 ⟨hx1, hN⟩
  replace hC := Lib.hid ((Keep.of_ext (X := fun _ => False) hx1.out).blk hC.out id)
  replace hR := Lib.hid ((Keep.of_ext (X := fun _ => False) hx1.out).blk hR.out id)
  have hne : Hid (w.heap.size + 1 ≠ v5.heap.size ∧ w.heap.size ≤ v5.heap.size) := Lib.hid (by have h5 := hR5.out; omega)
  replace hE := Lib.hid (hE.out.trans hx1.out)
  clear c0 c1 l0 hx1
  have c0 : v6.cell? ⟨w.heap.size, 0, none⟩ = some (.int .i64 0) := hC.out.cell 0
  have c1 : v6.cell? ⟨w.heap.size, 1, none⟩ = some (.int .i64 1) := hC.out.cell 1
  have l0 := hC.out.lt
  go_wp2_with fail
  refine (hm2.out _).mono ?_
  rintro e v7 ⟨rfl, hx1⟩
  replace hR := Lib.hid ((Keep.of_ext (X := fun _ => False) hx1).blk hR.out id)
  replace hN := Lib.hid ((Keep.of_ext (X := fun _ => False) hx1).blk hN.out id)
  replace hE := Lib.hid (hE.out.trans hx1)
  clear c0 c1 l0 hx1 hC hi hm1 hm2 hd
  have c0 : v7.cell? ⟨v5.heap.size, 0, none⟩ = some (.int .i64 (r : Int)) := hN.out.cell 0
  have c1 : v7.cell? ⟨v5.heap.size, 1, none⟩ = some (.int .i64 0) := hN.out.cell 1
  have fc := hN.out.frozen 1
  have l0 := hN.out.lt
  go_upto_region 19 with (fail)
  refine wp_abs (S := fun W => Hid (Ext w W) ∧ Hid (Blk W v5.heap.size 209 #[.int .i64 (r : Int), .int .i64 (P : Int)]) ∧ Hid (Blk W (w.heap.size + 1) 209 #[.int .i64 0, .int .i64 0])) ?_ ?_
  ·exact ⟨Lib.hid (hE.out.setCell hne.out.2 _), Lib.hid (hN.out.set_ 1 _), Lib.hid (hR.out.far (p := ⟨v5.heap.size, 1, none⟩) hne.out.1 _)⟩
  clear c0 c1 fc l0
  rintro v8 ⟨hE8, hN8, hR8⟩
  have c0 : v8.cell? ⟨v5.heap.size, 0, none⟩ = some (.int .i64 (r : Int)) := hN8.out.cell 0
  have c1 : v8.cell? ⟨v5.heap.size, 1, none⟩ = some (.int .i64 (P : Int)) := hN8.out.cell 1
  have l0 := hN8.out.lt
  have r0 : v8.cell? ⟨w.heap.size + 1, 0, none⟩ = some (.int .i64 0) := hR8.out.cell 0
  have r1 : v8.cell? ⟨w.heap.size + 1, 1, none⟩ = some (.int .i64 0) := hR8.out.cell 1
  have f0 := hR8.out.frozen 0
  have f1 := hR8.out.frozen 1
  have l1 := hR8.out.lt
  go_wp2
  refine bodyPost_ret (classMeet_results rfl ((hR8.out.set_ 0 (.int .i64 (r : Int))).set_ 1 (.int .i64 (P : Int)))) rfl ?_
  exact ⟨rfl, ((hE8.out.setCell (p := ⟨w.heap.size + 1, 0, none⟩) (by show w.heap.size ≤ w.heap.size + 1; omega) _).setCell (p := ⟨w.heap.size + 1, 1, none⟩) (by show w.heap.size ≤ w.heap.size + 1; omega) _)⟩
end Go.Proofs.YtepcdhpikpmepaaGreat
namespace Go.Proofs.YtepcdhpikpmepaaGreat
open Go.RowKit Go.Shelf

def resD (p : PerD) (c : Int) : Int := (p.from_ % p.period + c) % p.period
set_option maxHeartbeats 800000 in
theorem residue_calls (v : Value) (p : PerD) (c : Int) (w : World) (h : PerV w v p) (hok : PerOk p) (hc0 : 0 ≤ c) (hc1 : c < p.period) :
  Calls Tryz.prog 126 #[v, .int .i64 c] w fun e w' => e = .returned (.int .i64 (resD p c)) ∧ Ext w w' := by
 obtain ⟨hv, cv, rfl, hh, hcy⟩ := h
 obtain ⟨_, f0, f1, q0, q1, _⟩ := hok
 obtain ⟨ha, hcp, rfl⟩ := hh.form
 obtain ⟨ca, cc, rfl⟩ := hcy.form
 obtain ⟨R, hR⟩ : ∃ R, Hid (resD p c = R) := ⟨_, rfl⟩
 have hR2 := hR.out
 unfold resD at hR2
 rw [hR.out]
 revert hc1 f0 f1 q0 q1 hR2
 generalize p.from_ = f
 generalize p.period = P
 generalize p.head.length = hn
 generalize p.cycle.length = cn
 intro hc1 f0 f1 q0 q1 hR2
 obtain ⟨a, hf⟩ : ∃ a, f % P = a := ⟨_, rfl⟩
 rw [hf] at hR2
 have a0 : 0 ≤ a := by rw [← hf]; exact Int.emod_nonneg _ (by omega)
 have a1 : a < P := by rw [← hf]; exact Int.emod_lt_of_pos _ (by omega)
 have t1 : f.tmod P = a := by rw [Int.tmod_eq_emod_of_nonneg f0]; exact hf
 have t2 : (a + c).tmod P = R := by rw [Int.tmod_eq_emod_of_nonneg (by omega)]; exact hR2
 have n0 : (P == 0) = false := by rw [beq_eq_false_iff_ne]; omega
 have w1 : wrap64 (a + c) = a + c := by unfold wrap64; omega
 clear hR hR2 hf hh hcy
 go_enter Tryz.func126, Tryz.ntmps126
 go_wp2_with fail
 go_region
 all_goals go_wp2
 all_goals go_ret
 all_goals exact ⟨rfl, (by with_reducible repeat' (first | exact Ext.refl _ | assumption | refine Ext.drewN ?_ _ | refine Ext.drew ?_ | refine Ext.alloc ?_ _ | refine Ext.trans ?_ (by with_reducible assumption)))⟩
set_option maxHeartbeats 800000 in
theorem start_calls (v : Value) (p : PerD) (w : World) (h : Pers w v [p]) (hok : PerOk p) :
  Calls Tryz.prog 128 #[v] w fun e w' => e = .returned (.int .i64 p.from_) ∧ Ext w w' := by
 obtain ⟨_, f0, f1, _⟩ := hok
 obtain ⟨a, c, rfl, hn, hc, hat⟩ := h.open
 have hat' := Lib.hid hat
 clear h hat
 go_enter Tryz.func128, Tryz.ntmps128
 go_wp2_with fail
 go_loopw [3, 5, 8] (fun vf _ vi wr => ∃ i : Nat, i ≤ 1 ∧ vi = .int .i64 i ∧ vf = .int .i64 (if i = 0 then 0 else p.from_) ∧ Hid (Ext w wr)) (fun _ _ vi _ => 1 - (intOf vi).toNat)
 case atStart => exact ⟨0, by omega, rfl, rfl, Lib.hid (by exact (by with_reducible repeat' (first | exact Ext.refl _ | assumption | refine Ext.drewN ?_ _ | refine Ext.drew ?_ | refine Ext.alloc ?_ _ | refine Ext.trans ?_ (by with_reducible assumption))))⟩
 case round =>
  obtain ⟨i, hi, rfl, rfl, hx⟩ := hrel
  by_cases h1 : i < 1
  ·obtain ⟨b1, o1, x, ha, hcp, ca, cc, rfl, hb1, dx, ex, g0, g1, g2, g3, gh, gc⟩ := hat'.out i (by simpa using h1) wr hx.out
   obtain rfl : i = 0 := by omega
   obtain rfl : p = x := by simpa using ex.out
   simp only [Nat.zero_mul, Nat.add_zero] at g0 g1 g2 g3
   clear gh gc dx ex h1
   rw [if_pos rfl]
   obtain ⟨f, hf⟩ : ∃ f, Hid (p.from_ = f) := ⟨_, rfl⟩
   rw [hf.out] at g1 f0 f1 ⊢
   have hmx : max (0 : Int) f = f := by omega
   go_upto_region 6 with (fail)
   refine wp_abs (S := fun W => Hid (Ext w W)) ?_ ?_
   ·exact Lib.hid (hx.out.trans (by exact (by with_reducible repeat' (first | exact Ext.refl _ | assumption | refine Ext.drewN ?_ _ | refine Ext.drew ?_ | refine Ext.alloc ?_ _ | refine Ext.trans ?_ (by with_reducible assumption)))))
   rintro V hV
   clear g0 g1 g2 g3
   go_wp2
   go_roundw
   case rel => first | exact ⟨1, by omega, by first | rfl | trivial | go_num, by rw [show (if 0 < f then f else (0 : Int)) = f by split <;> omega]; rfl, hV⟩ | ((repeat apply Exists.intro); exact ⟨⟨1, by omega, by first | rfl | trivial | go_num, by rw [show (if 0 < f then f else (0 : Int)) = f by split <;> omega]; rfl, hV⟩, rfl⟩)
   case measure => simp [intOf]
  ·obtain rfl : i = 1 := by omega
   rw [if_neg (by omega)]
   go_wp2
   go_ret
   exact ⟨rfl, hx.out⟩
set_option maxHeartbeats 800000 in
theorem early_calls (v : Value) (p : PerD) (n : Int) (w : World) (h : Pers w v [p]) (hok : PerOk p) :
  Calls Tryz.prog 112 #[v, .int .i64 n] w fun e w' => e = .returned (.tuple #[.int .i64 0, .bool false]) ∧ Ext w w' := by
 obtain ⟨e0, _⟩ := hok
 obtain ⟨a, c, rfl, hn, hc, hat⟩ := h.open
 have hat' := Lib.hid hat
 clear h hat
 go_enter Tryz.func112, Tryz.ntmps112
 go_wp2_with fail
 go_loopw [6, 7, 9, 11, 14] (fun vl vf _ _ vi wr => ∃ i : Nat, i ≤ 1 ∧ vi = .int .i64 i ∧ vl = .int .i64 0 ∧ vf = .bool false ∧ Hid (Ext w wr)) (fun _ _ _ _ vi _ => 1 - (intOf vi).toNat)
 case atStart => exact ⟨0, by omega, rfl, rfl, rfl, Lib.hid (by exact (by with_reducible repeat' (first | exact Ext.refl _ | assumption | refine Ext.drewN ?_ _ | refine Ext.drew ?_ | refine Ext.alloc ?_ _ | refine Ext.trans ?_ (by with_reducible assumption))))⟩
 case round =>
  obtain ⟨i, hi, rfl, rfl, rfl, hx⟩ := hrel
  by_cases h1 : i < 1
  ·obtain ⟨b1, o1, x, ha, hcp, ca, cc, rfl, hb1, dx, ex, g0, g1, g2, g3, gh, gc⟩ := hat'.out i (by simpa using h1) wr hx.out
   obtain rfl : i = 0 := by omega
   obtain rfl : p = x := by simpa using ex.out
   rw [e0] at g0
   simp only [Nat.zero_mul, Nat.add_zero, List.length_nil] at g0 g1 g2 g3
   clear gh gc dx ex h1
   go_upto_region 5 with (fail)
   refine wp_abs (S := fun W => Hid (Ext w W) ∧ Hid (Blk W wr.heap.size 107 #[.slice ha 0 hcp, .int .i64 p.from_, .int .i64 p.period, .slice ca p.cycle.length cc])) ?_ ?_
   ·exact ⟨Lib.hid (hx.out.trans (by exact (by with_reducible repeat' (first | exact Ext.refl _ | assumption | refine Ext.drewN ?_ _ | refine Ext.drew ?_ | refine Ext.alloc ?_ _ | refine Ext.trans ?_ (by with_reducible assumption))))), Lib.hid (blk_new' (by simp) rfl)⟩
   rintro V ⟨hV, hB⟩
   have c0 : V.cell? ⟨wr.heap.size, 0, none⟩ = some (.slice ha 0 hcp) := hB.out.cell 0
   have l0 := hB.out.lt
   clear g0 g1 g2 g3
   go_wp2_with fail
   go_loopw [6, 7, 21] (fun vl vf vj wk => vl = .int .i64 0 ∧ vf = .bool false ∧ vj = .int .i64 0 ∧ wk = V) (fun _ _ _ _ => 0)
   case atStart => exact ⟨rfl, rfl, rfl, rfl⟩
   case round =>
    obtain ⟨rfl, rfl, rfl, rfl⟩ := hrel
    go_wp2
    go_roundw
    case rel => first | exact ⟨1, by omega, by first | rfl | trivial | go_num, by first | rfl | trivial, by first | rfl | trivial, hV⟩ | ((repeat apply Exists.intro); exact ⟨⟨1, by omega, by first | rfl | trivial | go_num, by first | rfl | trivial, by first | rfl | trivial, hV⟩, rfl⟩)
    case measure => simp [intOf]
  ·obtain rfl : i = 1 := by omega
   go_wp2
   go_ret2
   exact ⟨rfl, hx.out⟩
end Go.Proofs.YtepcdhpikpmepaaGreat
