/- Walks of the check: closed, whole. -/
import Derived.Test.YtonmlmkemliefaaClosedA
namespace Go.Proofs.Ytonmlmkemliefaa
open Go.RowKit



set_option maxHeartbeats 1600000 in
set_option maxRecDepth 100000 in
theorem closed_undecA (w0 w : World) (K D : Nat) (tv cv : Value) (t : List WishD) (bound : Int) (c : List NodeD) (dec : List Int) (lst wish clA clB harm : Int) (kv : Value)
    (H : Chk w0 w K D tv cv t bound c dec lst) (hd : DecOk t dec) (ht : TaskIn t) (_h1 : -1000000000000 ≤ harm + lst) (_h2 : harm + lst ≤ 2000000000000) (hA : clA ≠ -1) (hI : idxB clA t.length = true) (hJ : idxB clB t.length = true) (hE : clA ≠ clB) (hu : decAt dec clA < 0) :
    Calls Try.prog 64 #[.pointer (some ⟨K, 0, none⟩), .agg #[.int .i64 wish, kv, .int .i64 clA, .int .i64 clB], .int .i64 harm] w fun e w' =>
      e = .returned (.bool (closedB t bound dec lst clA clB harm)) ∧ Ext w w' := by
  have hH := Lib.hid H
  have hdd := Lib.hid hd
  have htt := Lib.hid ht
  obtain ⟨ta, tc, rfl, hn, hc, hat⟩ := H.wishes.open
  have k0 : w.cell? ⟨K, 0, none⟩ = some (.slice ta t.length tc) := H.blk.cell 0
  have k1 : w.cell? ⟨K, 1, none⟩ = some (.int .i64 bound) := H.blk.cell 1
  have k3 : w.cell? ⟨K, 3, none⟩ = some (.slice (some ⟨D, 0, none⟩) dec.length dec.length) := H.blk.cell 3
  have k4 : w.cell? ⟨K, 4, none⟩ = some (.int .i64 lst) := H.blk.cell 4
  clear H hd ht
  have hat' := Lib.hid hat
  clear hat
  have hA' : (clA == -1) = false := by simpa using hA
  have hI1 : Hid (∀ W, Calls Try.prog 53 #[.int .i64 clA, .int .i64 t.length] W fun e w' => e = .returned (.bool true) ∧ Ext W w') := fun W => by have := index_calls clA t.length W; rwa [hI] at this
  have hI2 : Hid (∀ W, Calls Try.prog 53 #[.int .i64 clB, .int .i64 t.length] W fun e w' => e = .returned (.bool true) ∧ Ext W w') := fun W => by have := index_calls clB t.length W; rwa [hJ] at this
  have hE' : (clA == clB) = false := by simpa using hE
  obtain ⟨a, rfl, ha⟩ := idxB_nat hI
  obtain ⟨b, rfl, hb⟩ := idxB_nat hJ
  have R0 : Hid (closedB t bound dec lst a b harm = (decide (0 ≤ decAt dec a) && decide (0 ≤ decAt dec b) && clashAt t dec a b)) := by
    show _ = _
    unfold closedB
    rw [if_neg hA, if_neg (by simp [hI, hJ]; omega)]
    rfl
  have hdl := hdd.out.1
  obtain ⟨da, hda⟩ : ∃ d, dec[a]? = some d := ⟨dec[a], List.getElem?_eq_getElem (by omega)⟩
  obtain ⟨db, hdb⟩ : ∃ d, dec[b]? = some d := ⟨dec[b], List.getElem?_eq_getElem (by omega)⟩
  have hR1 : decAt dec a = da := by simp [decAt, hda]
  have hR2 : decAt dec b = db := by simp [decAt, hdb]
  rw [hR1, hR2] at R0
  have l0 : w.cell? ⟨D, a, none⟩ = some (.int .i64 da) := by
    rw [hH.out.db.cell a]; simp [hda]
  have l1 : w.cell? ⟨D, b, none⟩ = some (.int .i64 db) := by
    rw [hH.out.db.cell b]; simp [hdb]
  have hal : a < dec.length := by omega
  have hbl : b < dec.length := by omega
  have hHda := Lib.hid hda
  have hHdb := Lib.hid hdb
  clear hI hJ hA hE hR1 hR2 hda hdb
  have hu1 : da < 0 := by have := hu; simp only [decAt, Int.toNat_natCast, hHda.out, Option.getD_some] at this; exact this
  have hu2 : decide (0 ≤ da) = false := by simpa using hu1
  rw [hu2] at R0
  simp only [Bool.false_and] at R0
  clear hu
  go_enter Try.func64, Try.ntmps64
  go_wp2_with fail
  refine wp_abs (S := fun W => Ext w W ∧ W.cell? ⟨w.heap.size, 2, none⟩ = some (.int .i64 a) ∧ W.cell? ⟨w.heap.size, 3, none⟩ = some (.int .i64 b)) ⟨by exact (by repeat' (first | (with_reducible exact Ext.refl _) | (with_reducible assumption) | (with_reducible refine Ext.drewN ?_ _) | (with_reducible refine Ext.drew ?_) | (with_reducible refine Ext.alloc ?_ _) | (with_reducible refine Ext.trans ?_ (by with_reducible assumption)))), by simp, by simp⟩ ?_
  rintro W ⟨hx, c2, c3⟩
  have d2 := After.cell c2
  have d3 := After.cell c3
  have d4 := After.cell (hx.cell k4)
  have d1 := After.cell (hx.cell k1)
  have d0 := After.cell (hx.cell k0)
  have d5 := After.cell (hx.cell k3)
  go_wp2_with fail
  refine wp_region_after (by kernel_rfl) (by kernel_rfl) ?_
  repeat (go_big_quiet_step (exact After.call _ (by first | (with_reducible exact hI1.out _) | (with_reducible exact hI2.out _) | exact hcl.out _ (After.ext _))))
  refine wpQuiet_nil ?_
  rintro _ ⟨z, rfl⟩
  go_step; go_step
  refine wp_abs (S := fun W' => Ext W W') z.ext ?_
  clear z
  intro W2 hx2
  have f2 := After.cell (hx2.cell c2)
  have f3 := After.cell (hx2.cell c3)
  have f5 := After.cell (hx2.cell (hx.cell k3))
  have g0 := After.cell (hx2.cell (hx.cell l0))
  have g1 := After.cell (hx2.cell (hx.cell l1))
  go_wp2_with fail
  refine wp_region_after (by kernel_rfl) (by kernel_rfl) ?_
  repeat (go_big_quiet_step (exact After.call _ (by first | (with_reducible exact hI1.out _) | (with_reducible exact hI2.out _) | exact hcl.out _ (After.ext _))))
  refine wpQuiet_nil ?_
  rintro _ ⟨z, rfl⟩
  go_step; go_step
  refine wp_abs (S := fun W' => Ext W2 W') z.ext ?_
  clear z
  intro W3 hx3
  have f2' := After.cell (hx3.cell (hx2.cell c2))
  have f3' := After.cell (hx3.cell (hx2.cell c3))
  have f0' := After.cell (hx3.cell (hx2.cell (hx.cell k0)))
  go_wp2_with fail
  refine wp_region_after (by kernel_rfl) (by kernel_rfl) ?_
  repeat (go_big_quiet_step (exact After.call _ (by first | (with_reducible exact hI1.out _) | (with_reducible exact hI2.out _) | exact hcl.out _ (After.ext _))))
  refine wpQuiet_nil ?_
  rintro _ ⟨z, rfl⟩
  go_wp2
  go_ret
  rw [R0.out]
  exact ⟨rfl, ((hx.trans hx2).trans hx3).trans z.ext⟩

set_option maxHeartbeats 1600000 in
set_option maxRecDepth 100000 in
theorem closed_undecB (w0 w : World) (K D : Nat) (tv cv : Value) (t : List WishD) (bound : Int) (c : List NodeD) (dec : List Int) (lst wish clA clB harm : Int) (kv : Value)
    (H : Chk w0 w K D tv cv t bound c dec lst) (hd : DecOk t dec) (ht : TaskIn t) (_h1 : -1000000000000 ≤ harm + lst) (_h2 : harm + lst ≤ 2000000000000) (hA : clA ≠ -1) (hI : idxB clA t.length = true) (hJ : idxB clB t.length = true) (hE : clA ≠ clB) (hu : 0 ≤ decAt dec clA) (hv : decAt dec clB < 0) :
    Calls Try.prog 64 #[.pointer (some ⟨K, 0, none⟩), .agg #[.int .i64 wish, kv, .int .i64 clA, .int .i64 clB], .int .i64 harm] w fun e w' =>
      e = .returned (.bool (closedB t bound dec lst clA clB harm)) ∧ Ext w w' := by
  have hH := Lib.hid H
  have hdd := Lib.hid hd
  have htt := Lib.hid ht
  obtain ⟨ta, tc, rfl, hn, hc, hat⟩ := H.wishes.open
  have k0 : w.cell? ⟨K, 0, none⟩ = some (.slice ta t.length tc) := H.blk.cell 0
  have k1 : w.cell? ⟨K, 1, none⟩ = some (.int .i64 bound) := H.blk.cell 1
  have k3 : w.cell? ⟨K, 3, none⟩ = some (.slice (some ⟨D, 0, none⟩) dec.length dec.length) := H.blk.cell 3
  have k4 : w.cell? ⟨K, 4, none⟩ = some (.int .i64 lst) := H.blk.cell 4
  clear H hd ht
  have hat' := Lib.hid hat
  clear hat
  have hA' : (clA == -1) = false := by simpa using hA
  have hI1 : Hid (∀ W, Calls Try.prog 53 #[.int .i64 clA, .int .i64 t.length] W fun e w' => e = .returned (.bool true) ∧ Ext W w') := fun W => by have := index_calls clA t.length W; rwa [hI] at this
  have hI2 : Hid (∀ W, Calls Try.prog 53 #[.int .i64 clB, .int .i64 t.length] W fun e w' => e = .returned (.bool true) ∧ Ext W w') := fun W => by have := index_calls clB t.length W; rwa [hJ] at this
  have hE' : (clA == clB) = false := by simpa using hE
  obtain ⟨a, rfl, ha⟩ := idxB_nat hI
  obtain ⟨b, rfl, hb⟩ := idxB_nat hJ
  have R0 : Hid (closedB t bound dec lst a b harm = (decide (0 ≤ decAt dec a) && decide (0 ≤ decAt dec b) && clashAt t dec a b)) := by
    show _ = _
    unfold closedB
    rw [if_neg hA, if_neg (by simp [hI, hJ]; omega)]
    rfl
  have hdl := hdd.out.1
  obtain ⟨da, hda⟩ : ∃ d, dec[a]? = some d := ⟨dec[a], List.getElem?_eq_getElem (by omega)⟩
  obtain ⟨db, hdb⟩ : ∃ d, dec[b]? = some d := ⟨dec[b], List.getElem?_eq_getElem (by omega)⟩
  have hR1 : decAt dec a = da := by simp [decAt, hda]
  have hR2 : decAt dec b = db := by simp [decAt, hdb]
  rw [hR1, hR2] at R0
  have l0 : w.cell? ⟨D, a, none⟩ = some (.int .i64 da) := by
    rw [hH.out.db.cell a]; simp [hda]
  have l1 : w.cell? ⟨D, b, none⟩ = some (.int .i64 db) := by
    rw [hH.out.db.cell b]; simp [hdb]
  have hal : a < dec.length := by omega
  have hbl : b < dec.length := by omega
  have hHda := Lib.hid hda
  have hHdb := Lib.hid hdb
  clear hI hJ hA hE hR1 hR2 hda hdb
  have hu1 : 0 ≤ da := by have := hu; simp only [decAt, Int.toNat_natCast, hHda.out, Option.getD_some] at this; exact this
  have hu2 : decide (0 ≤ da) = true := by simpa using hu1
  have hv1 : db < 0 := by have := hv; simp only [decAt, Int.toNat_natCast, hHdb.out, Option.getD_some] at this; exact this
  have hv2 : decide (0 ≤ db) = false := by simpa using hv1
  rw [hv2] at R0
  simp only [Bool.and_false, Bool.false_and] at R0
  clear hu hv
  go_enter Try.func64, Try.ntmps64
  go_wp2_with fail
  refine wp_abs (S := fun W => Ext w W ∧ W.cell? ⟨w.heap.size, 2, none⟩ = some (.int .i64 a) ∧ W.cell? ⟨w.heap.size, 3, none⟩ = some (.int .i64 b)) ⟨by exact (by repeat' (first | (with_reducible exact Ext.refl _) | (with_reducible assumption) | (with_reducible refine Ext.drewN ?_ _) | (with_reducible refine Ext.drew ?_) | (with_reducible refine Ext.alloc ?_ _) | (with_reducible refine Ext.trans ?_ (by with_reducible assumption)))), by simp, by simp⟩ ?_
  rintro W ⟨hx, c2, c3⟩
  have d2 := After.cell c2
  have d3 := After.cell c3
  have d4 := After.cell (hx.cell k4)
  have d1 := After.cell (hx.cell k1)
  have d0 := After.cell (hx.cell k0)
  have d5 := After.cell (hx.cell k3)
  go_wp2_with fail
  refine wp_region_after (by kernel_rfl) (by kernel_rfl) ?_
  repeat (go_big_quiet_step (exact After.call _ (by first | (with_reducible exact hI1.out _) | (with_reducible exact hI2.out _) | exact hcl.out _ (After.ext _))))
  refine wpQuiet_nil ?_
  rintro _ ⟨z, rfl⟩
  go_step; go_step
  refine wp_abs (S := fun W' => Ext W W') z.ext ?_
  clear z
  intro W2 hx2
  have f2 := After.cell (hx2.cell c2)
  have f3 := After.cell (hx2.cell c3)
  have f5 := After.cell (hx2.cell (hx.cell k3))
  have g0 := After.cell (hx2.cell (hx.cell l0))
  have g1 := After.cell (hx2.cell (hx.cell l1))
  go_wp2_with fail
  refine wp_region_after (by kernel_rfl) (by kernel_rfl) ?_
  repeat (go_big_quiet_step (exact After.call _ (by first | (with_reducible exact hI1.out _) | (with_reducible exact hI2.out _) | exact hcl.out _ (After.ext _))))
  refine wpQuiet_nil ?_
  rintro _ ⟨z, rfl⟩
  go_step; go_step
  refine wp_abs (S := fun W' => Ext W2 W') z.ext ?_
  clear z
  intro W3 hx3
  have f2' := After.cell (hx3.cell (hx2.cell c2))
  have f3' := After.cell (hx3.cell (hx2.cell c3))
  have f0' := After.cell (hx3.cell (hx2.cell (hx.cell k0)))
  go_wp2_with fail
  refine wp_region_after (by kernel_rfl) (by kernel_rfl) ?_
  repeat (go_big_quiet_step (exact After.call _ (by first | (with_reducible exact hI1.out _) | (with_reducible exact hI2.out _) | exact hcl.out _ (After.ext _))))
  refine wpQuiet_nil ?_
  rintro _ ⟨z, rfl⟩
  go_wp2
  go_ret
  rw [R0.out]
  exact ⟨rfl, ((hx.trans hx2).trans hx3).trans z.ext⟩

set_option maxHeartbeats 1600000 in
set_option maxRecDepth 100000 in
theorem closed_good (w0 w : World) (K D : Nat) (tv cv : Value) (t : List WishD) (bound : Int) (c : List NodeD) (dec : List Int) (lst wish clA clB harm : Int) (kv : Value)
    (H : Chk w0 w K D tv cv t bound c dec lst) (hd : DecOk t dec) (ht : TaskIn t) (_h1 : -1000000000000 ≤ harm + lst) (_h2 : harm + lst ≤ 2000000000000) (hA : clA ≠ -1) (hI : idxB clA t.length = true) (hJ : idxB clB t.length = true) (hE : clA ≠ clB) (hu : 0 ≤ decAt dec clA) (hv : 0 ≤ decAt dec clB) :
    Calls Try.prog 64 #[.pointer (some ⟨K, 0, none⟩), .agg #[.int .i64 wish, kv, .int .i64 clA, .int .i64 clB], .int .i64 harm] w fun e w' =>
      e = .returned (.bool (closedB t bound dec lst clA clB harm)) ∧ Ext w w' := by
  have hH := Lib.hid H
  have hdd := Lib.hid hd
  have htt := Lib.hid ht
  obtain ⟨ta, tc, rfl, hn, hc, hat⟩ := H.wishes.open
  have k0 : w.cell? ⟨K, 0, none⟩ = some (.slice ta t.length tc) := H.blk.cell 0
  have k1 : w.cell? ⟨K, 1, none⟩ = some (.int .i64 bound) := H.blk.cell 1
  have k3 : w.cell? ⟨K, 3, none⟩ = some (.slice (some ⟨D, 0, none⟩) dec.length dec.length) := H.blk.cell 3
  have k4 : w.cell? ⟨K, 4, none⟩ = some (.int .i64 lst) := H.blk.cell 4
  clear H hd ht
  have hat' := Lib.hid hat
  clear hat
  have hA' : (clA == -1) = false := by simpa using hA
  have hI1 : Hid (∀ W, Calls Try.prog 53 #[.int .i64 clA, .int .i64 t.length] W fun e w' => e = .returned (.bool true) ∧ Ext W w') := fun W => by have := index_calls clA t.length W; rwa [hI] at this
  have hI2 : Hid (∀ W, Calls Try.prog 53 #[.int .i64 clB, .int .i64 t.length] W fun e w' => e = .returned (.bool true) ∧ Ext W w') := fun W => by have := index_calls clB t.length W; rwa [hJ] at this
  have hE' : (clA == clB) = false := by simpa using hE
  obtain ⟨a, rfl, ha⟩ := idxB_nat hI
  obtain ⟨b, rfl, hb⟩ := idxB_nat hJ
  have R0 : Hid (closedB t bound dec lst a b harm = (decide (0 ≤ decAt dec a) && decide (0 ≤ decAt dec b) && clashAt t dec a b)) := by
    show _ = _
    unfold closedB
    rw [if_neg hA, if_neg (by simp [hI, hJ]; omega)]
    rfl
  have hdl := hdd.out.1
  obtain ⟨da, hda⟩ : ∃ d, dec[a]? = some d := ⟨dec[a], List.getElem?_eq_getElem (by omega)⟩
  obtain ⟨db, hdb⟩ : ∃ d, dec[b]? = some d := ⟨dec[b], List.getElem?_eq_getElem (by omega)⟩
  have hR1 : decAt dec a = da := by simp [decAt, hda]
  have hR2 : decAt dec b = db := by simp [decAt, hdb]
  rw [hR1, hR2] at R0
  have l0 : w.cell? ⟨D, a, none⟩ = some (.int .i64 da) := by
    rw [hH.out.db.cell a]; simp [hda]
  have l1 : w.cell? ⟨D, b, none⟩ = some (.int .i64 db) := by
    rw [hH.out.db.cell b]; simp [hdb]
  have hal : a < dec.length := by omega
  have hbl : b < dec.length := by omega
  have hHda := Lib.hid hda
  have hHdb := Lib.hid hdb
  clear hI hJ hA hE hR1 hR2 hda hdb
  have hu1 : 0 ≤ da := by have := hu; simp only [decAt, Int.toNat_natCast, hHda.out, Option.getD_some] at this; exact this
  have hv1 : 0 ≤ db := by have := hv; simp only [decAt, Int.toNat_natCast, hHdb.out, Option.getD_some] at this; exact this
  obtain ⟨m, rfl⟩ : ∃ m : Nat, da = m := ⟨da.toNat, by omega⟩
  obtain ⟨n, rfl⟩ : ∃ n : Nat, db = n := ⟨db.toNat, by omega⟩
  have hu2 : decide (0 ≤ (m : Int)) = true := by simp
  have hv2 : decide (0 ≤ (n : Int)) = true := by simp
  rw [hu2, hv2] at R0
  simp only [Bool.true_and] at R0
  clear hu hv hu1 hv1
  go_enter Try.func64, Try.ntmps64
  go_wp2_with fail
  refine wp_abs (S := fun W => Ext w W ∧ W.cell? ⟨w.heap.size, 2, none⟩ = some (.int .i64 a) ∧ W.cell? ⟨w.heap.size, 3, none⟩ = some (.int .i64 b)) ⟨by exact (by repeat' (first | (with_reducible exact Ext.refl _) | (with_reducible assumption) | (with_reducible refine Ext.drewN ?_ _) | (with_reducible refine Ext.drew ?_) | (with_reducible refine Ext.alloc ?_ _) | (with_reducible refine Ext.trans ?_ (by with_reducible assumption)))), by simp, by simp⟩ ?_
  rintro W ⟨hx, c2, c3⟩
  have d2 := After.cell c2
  have d3 := After.cell c3
  have d4 := After.cell (hx.cell k4)
  have d1 := After.cell (hx.cell k1)
  have d0 := After.cell (hx.cell k0)
  have d5 := After.cell (hx.cell k3)
  go_wp2_with fail
  refine wp_region_after (by kernel_rfl) (by kernel_rfl) ?_
  repeat (go_big_quiet_step (exact After.call _ (by first | (with_reducible exact hI1.out _) | (with_reducible exact hI2.out _) | exact hcl.out _ (After.ext _))))
  refine wpQuiet_nil ?_
  rintro _ ⟨z, rfl⟩
  go_step; go_step
  refine wp_abs (S := fun W' => Ext W W') z.ext ?_
  clear z
  intro W2 hx2
  have f2 := After.cell (hx2.cell c2)
  have f3 := After.cell (hx2.cell c3)
  have f5 := After.cell (hx2.cell (hx.cell k3))
  have g0 := After.cell (hx2.cell (hx.cell l0))
  have g1 := After.cell (hx2.cell (hx.cell l1))
  go_wp2_with fail
  refine wp_region_after (by kernel_rfl) (by kernel_rfl) ?_
  repeat (go_big_quiet_step (exact After.call _ (by first | (with_reducible exact hI1.out _) | (with_reducible exact hI2.out _) | exact hcl.out _ (After.ext _))))
  refine wpQuiet_nil ?_
  rintro _ ⟨z, rfl⟩
  go_step; go_step
  refine wp_abs (S := fun W' => Ext W2 W') z.ext ?_
  clear z
  intro W3 hx3
  have f2' := After.cell (hx3.cell (hx2.cell c2))
  have f3' := After.cell (hx3.cell (hx2.cell c3))
  have f0' := After.cell (hx3.cell (hx2.cell (hx.cell k0)))
  have hxx := (hx.trans hx2).trans hx3
  have hx0 := hH.out.ext.trans hxx
  obtain ⟨b1, o1, x, xa, xc, oa, oc, rfl, hb1, _, ex, q1, q2, q3, gp, go⟩ := hat'.out a ha W3 hx0
  obtain ⟨b1', o1', y, xa', xc', oa', oc', e1, hb1', _, ey, q1', q2', q3', gp', go'⟩ := hat'.out b hb W3 hx0
  cases e1
  obtain ⟨o, ho⟩ : ∃ o, x.opts[m]? = some o := by
    have := (hdd.out.2 a x m ex.out hHda.out).2
    exact ⟨x.opts[m], List.getElem?_eq_getElem (by omega)⟩
  obtain ⟨p, hp⟩ : ∃ p, y.opts[n]? = some p := by
    have := (hdd.out.2 b y n ey.out hHdb.out).2
    exact ⟨y.opts[n], List.getElem?_eq_getElem (by omega)⟩
  have hcl : Hid (∀ W, Ext W3 W → Calls Try.prog 54 #[.agg #[.int .i64 x.meeting, .slice xa x.people.length xc, .slice oa x.opts.length oc], .agg #[.int .i64 y.meeting, .slice xa' y.people.length xc', .slice oa' y.opts.length oc'], .int .i64 m, .int .i64 n] W
      fun e w' => e = .returned (.bool (clashB x y o p)) ∧ Ext W w') := fun W hW =>
    clash_calls _ _ x y m n o p W ⟨_, _, rfl, gp.ext hW, go.ext hW⟩ ⟨_, _, rfl, gp'.ext hW, go'.ext hW⟩ (htt.out x (List.mem_of_getElem? ex.out)) (htt.out y (List.mem_of_getElem? ey.out)) ho hp
  have hcv : clashAt t dec a b = clashB x y o p := by
    have e1 : optOf t dec a = some (x, o) := by simp [optOf, ex.out, hHda.out, ho]
    have e2 : optOf t dec b = some (y, p) := by simp [optOf, ey.out, hHdb.out, hp]
    simp only [clashAt, e1, e2]
  rw [hcv] at R0
  have r1 := After.cell q1
  have r2 := After.cell q2
  have r3 := After.cell q3
  have r1' := After.cell q1'
  have r2' := After.cell q2'
  have r3' := After.cell q3'
  clear gp go gp' go' q1 q2 q3 q1' q2' q3' ho hp hcv
  generalize clashB x y o p = cb at *
  have hxx' := Lib.hid hxx
  clear hxx hx0 hx hx2 hx3 c2 c3
  go_wp2_with fail
  refine wp_region_after (by kernel_rfl) (by kernel_rfl) ?_
  repeat (go_big_quiet_step (exact After.call _ (by first | (with_reducible exact hI1.out _) | (with_reducible exact hI2.out _) | exact hcl.out _ (After.ext _))))
  refine wpQuiet_nil ?_
  rintro _ ⟨z, rfl⟩
  go_wp2
  go_ret
  rw [R0.out]
  exact ⟨rfl, hxx'.out.trans z.ext⟩

theorem closed_calls (w0 w : World) (K D : Nat) (tv cv : Value) (t : List WishD) (bound : Int) (c : List NodeD) (dec : List Int) (lst wish clA clB harm : Int) (kv : Value)
    (H : Chk w0 w K D tv cv t bound c dec lst) (hd : DecOk t dec) (ht : TaskIn t) (h1 : -1000000000000 ≤ harm + lst) (h2 : harm + lst ≤ 2000000000000) :
    Calls Try.prog 64 #[.pointer (some ⟨K, 0, none⟩), .agg #[.int .i64 wish, kv, .int .i64 clA, .int .i64 clB], .int .i64 harm] w fun e w' =>
      e = .returned (.bool (closedB t bound dec lst clA clB harm)) ∧ Ext w w' := by
  by_cases hA : clA = -1
  · exact closed_open w0 w K D tv cv t bound c dec lst wish clA clB harm kv H hd ht h1 h2 hA
  cases hI : idxB clA t.length with
  | false => exact closed_badA w0 w K D tv cv t bound c dec lst wish clA clB harm kv H hd ht h1 h2 hA hI
  | true =>
  cases hJ : idxB clB t.length with
  | false => exact closed_badB w0 w K D tv cv t bound c dec lst wish clA clB harm kv H hd ht h1 h2 hA hI hJ
  | true =>
  by_cases hE : clA = clB
  · exact closed_same w0 w K D tv cv t bound c dec lst wish clA clB harm kv H hd ht h1 h2 hA hI hE
  rcases Int.lt_or_le (decAt dec clA) 0 with hu | hu
  · exact closed_undecA w0 w K D tv cv t bound c dec lst wish clA clB harm kv H hd ht h1 h2 hA hI hJ hE hu
  rcases Int.lt_or_le (decAt dec clB) 0 with hv | hv
  · exact closed_undecB w0 w K D tv cv t bound c dec lst wish clA clB harm kv H hd ht h1 h2 hA hI hJ hE hu hv
  exact closed_good w0 w K D tv cv t bound c dec lst wish clA clB harm kv H hd ht h1 h2 hA hI hJ hE hu hv
end Go.Proofs.Ytonmlmkemliefaa
