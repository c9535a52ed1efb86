import Derived.Test.YtgolicoalldidaaGreatZ26
set_option maxHeartbeats 12800000
namespace Go.Proofs.YtgolicoalldidaaGreat
open Go.RowKit
attribute [local go_sem] Oper.semAt_some
theorem in_eql (x y : InstD) (w : World) : (binOp .eql 114 (.agg #[.int .i64 x.1, .int .i64 x.2.1, .int .i64 x.2.2]) (.agg #[.int .i64 y.1, .int .i64 y.2.1, .int .i64 y.2.2])).run Tryz.prog w = .ok (.bool (decide (x = y))) w := by
 obtain ⟨a, b, c⟩ := x
 obtain ⟨d, e, f⟩ := y
 dsimp only
 have u3 := Tryz.underlying3
 have a3 := Tryz.isAgg3
 have z3 := Tryz.sizeOf3
 have a4 := Tryz.isAgg111
 have z4 := Tryz.sizeOf111
 have hS : Tryz.prog.underlying 114 = some (.struct (Tryz.prog.fieldsOf 114)) := by kernel_rfl
 have hp : Tryz.prog.stoodInHeld 114 = false := by kernel_rfl
 rw [run_eql_struct, show (10000 : Nat) = 9999 + 1 from rfl, run_equalIn_agg w 9999 114 _ _ hS hp]
 simp only [Program.fieldsOf, Tryz.underlying114]
 go_simp
 by_cases h1 : a = d <;> by_cases h2 : b = e <;> by_cases h3 : c = f <;> simp [h1, h2, h3]
theorem in_neq (x y : InstD) (w : World) : (binOp .neq 114 (.agg #[.int .i64 x.1, .int .i64 x.2.1, .int .i64 x.2.2]) (.agg #[.int .i64 y.1, .int .i64 y.2.1, .int .i64 y.2.2])).run Tryz.prog w = .ok (.bool (!decide (x = y))) w := by
 have h := in_eql x y w
 rw [run_eql_struct] at h
 rw [run_neq_struct]
 generalize (Op.equalIn 10000 114 (.agg #[.int .i64 x.1, .int .i64 x.2.1, .int .i64 x.2.2]) (.agg #[.int .i64 y.1, .int .i64 y.2.1, .int .i64 y.2.2])).run Tryz.prog w = r at h ⊢
 cases r with
 | ok b w1 =>
  simp only [Result.andThen_ok] at h ⊢
  cases h
  rfl
 | _ => simp [Result.andThen] at h
theorem in_guard (op : BinOp) (a b : Operand) (x y : InstD) (w : World) : (eqGuard op 114 a b (.agg #[.int .i64 x.1, .int .i64 x.2.1, .int .i64 x.2.2]) (.agg #[.int .i64 y.1, .int .i64 y.2.1, .int .i64 y.2.2])).run Tryz.prog w = .ok () w :=
 run_eqGuard_agg w op 114 a b #[.int .i64 x.1, .int .i64 x.2.1, .int .i64 x.2.2] #[.int .i64 y.1, .int .i64 y.2.1, .int .i64 y.2.2] (by kernel_rfl)
theorem less_callsI (x y : InstD) (w : World) : Calls Tryz.prog 76 #[.agg #[.int .i64 x.1, .int .i64 x.2.1, .int .i64 x.2.2], .agg #[.int .i64 y.1, .int .i64 y.2.1, .int .i64 y.2.2]] w fun e w' => e = .returned (.bool (decide (ltI x y))) ∧ Ext w w' := by
 obtain ⟨a, b, c⟩ := x
 obtain ⟨d, e, f⟩ := y
 dsimp only
 by_cases h1 : b = e
 ·have d1 : (b != e) = false := by simp [h1]
  by_cases h2 : a = d
  ·have d2 : (a != d) = false := by simp [h2]
   have R : Hid (decide (ltI (a, b, c) (d, e, f)) = decide (c < f)) := Lib.hid (by unfold ltI; dsimp only; congr 1; apply propext; omega)
   rw [R.out]
   obtain ⟨q, hq⟩ : ∃ q, decide (c < f) = q := ⟨_, rfl⟩
   rw [hq]
   clear R h1 h2
   go_enter Tryz.func76, Tryz.ntmps76
   go_wp2
   go_ret
   exact ⟨rfl, (by with_reducible repeat' (first | exact Ext.refl _ | assumption | refine Ext.drewN ?_ _ | refine Ext.drew ?_ | refine Ext.alloc ?_ _ | refine Ext.trans ?_ (by with_reducible assumption)))⟩
  ·have d2 : (a != d) = true := by simp [h2]
   have R : Hid (decide (ltI (a, b, c) (d, e, f)) = decide (a < d)) := Lib.hid (by unfold ltI; dsimp only; congr 1; apply propext; omega)
   rw [R.out]
   obtain ⟨q, hq⟩ : ∃ q, decide (a < d) = q := ⟨_, rfl⟩
   rw [hq]
   clear R h1 h2
   go_enter Tryz.func76, Tryz.ntmps76
   go_wp2
   go_ret
   exact ⟨rfl, (by with_reducible repeat' (first | exact Ext.refl _ | assumption | refine Ext.drewN ?_ _ | refine Ext.drew ?_ | refine Ext.alloc ?_ _ | refine Ext.trans ?_ (by with_reducible assumption)))⟩
 ·have d1 : (b != e) = true := by simp [h1]
  have R : Hid (decide (ltI (a, b, c) (d, e, f)) = decide (b < e)) := Lib.hid (by unfold ltI; dsimp only; congr 1; apply propext; omega)
  rw [R.out]
  obtain ⟨q, hq⟩ : ∃ q, decide (b < e) = q := ⟨_, rfl⟩
  rw [hq]
  clear R h1
  go_enter Tryz.func76, Tryz.ntmps76
  go_wp2
  go_ret
  exact ⟨rfl, (by with_reducible repeat' (first | exact Ext.refl _ | assumption | refine Ext.drewN ?_ _ | refine Ext.drew ?_ | refine Ext.alloc ?_ _ | refine Ext.trans ?_ (by with_reducible assumption)))⟩
theorem rising_next : ∀ {l : List Int} {low P : Int}, risingP low P l = true → ∀ i x y, l[i]? = some x → l[i + 1]? = some y → x < y
 | [], _, _, _, i, x, y, h, _ => by simp at h
 | a :: r, low, P, h, 0, x, y, hx, hy => by
  unfold risingP at h
  split at h
  ·cases h
  ·simp at hx hy
   subst hx
   exact (rising_mem h y (List.mem_of_getElem? hy)).1
 | a :: r, low, P, h, i + 1, x, y, hx, hy => by
  unfold risingP at h
  split at h
  ·cases h
  ·exact rising_next h i x y (by simpa using hx) (by simpa using hy)
theorem rising4_calls (v : Value) (l : List Int) (lim : Int) (w : World) (h : Ints w v l) (hr : risingP (-1) lim l = true) :
  Calls Tryz.prog 101 #[v, .int .i64 lim] w fun e w' => e = .returned (.bool true) ∧ Ext w w' := by
 obtain ⟨a, c, rfl, hn, hc, hat⟩ := h.open
 have hat' := Lib.hid hat
 have hr' := Lib.hid hr
 clear h hat hr
 go_enter Tryz.func101, Tryz.ntmps101
 go_wp2_with fail
 go_loopw [5] (fun vi wr => ∃ i : Nat, i ≤ l.length ∧ vi = .int .i64 i ∧ Hid (Ext w wr)) (fun vi _ => l.length - (intOf vi).toNat)
 case atStart => exact ⟨0, by omega, rfl, Lib.hid (Ext.refl _)⟩
 case round =>
  obtain ⟨i, hi, rfl, hx⟩ := hrel
  by_cases h1 : i < l.length
  ·obtain ⟨b1, o1, x, rfl, hb1, _, ex, g0⟩ := hat'.out i h1 wr hx.out
   obtain ⟨hx0, hx1⟩ := rising_mem' hr'.out x (List.mem_of_getElem? ex.out)
   have d1 : decide (x < 0) = false := decide_eq_false (by omega)
   have d2 : decide (lim ≤ x) = false := decide_eq_false (by omega)
   have z0 := After.cell g0
   by_cases h0 : i = 0
   ·subst h0
    rw [Nat.add_zero] at z0
    clear hx0 hx1 ex g0
    go_wp2_with fail
    refine wp_region_after (by kernel_rfl) (by kernel_rfl) ?_
    repeat (go_big_quiet_step (fail))
    refine wpQuiet_nil ?_
    rintro _ ⟨y, rfl⟩
    have hy := Lib.hid (hx.out.trans y.ext)
    generalize y.world = Y at hy ⊢
    clear z0 hx
    go_wp2
    go_roundw
    case rel => exact ⟨1, by omega, by go_num, hy⟩
    case measure => simp [intOf]; omega
   ·obtain ⟨b2, o2, y, e2, hb2, _, ey, g1⟩ := hat'.out (i - 1) (by omega) wr hx.out
    cases e2
    have hlt := rising_next hr'.out (i - 1) y x ey.out (by rw [show i - 1 + 1 = i by omega]; exact ex.out)
    have d3 : decide (x ≤ y) = false := decide_eq_false (by omega)
    have d4 : decide (0 < i) = true := decide_eq_true (by omega)
    have z1 := After.cell g1
    clear hx0 hx1 ex ey g0 g1 hlt
    go_wp2_with fail
    refine wp_region_after (by kernel_rfl) (by kernel_rfl) ?_
    repeat (go_big_quiet_step (fail))
    refine wpQuiet_nil ?_
    rintro _ ⟨y, rfl⟩
    have hy := Lib.hid (hx.out.trans y.ext)
    generalize y.world = Y at hy ⊢
    clear z0 z1 hx
    go_wp2
    go_roundw
    case rel => exact ⟨i + 1, by omega, by go_num, hy⟩
    case measure => simp [intOf]; omega
  ·go_wp2
   go_ret
   exact ⟨rfl, hx.out⟩
def PerOk0 (p : PerD) : Prop := p.head = [] ∧ 0 ≤ p.from_ ∧ p.from_ ≤ 1000 ∧ 1 ≤ p.period ∧ p.period ≤ 1000 ∧ p.cycle.length ≤ 1000 ∧ risingP (-1) p.period p.cycle = true
theorem per4Valid_calls (v : Value) (p : PerD) (w : World) (h : PerV w v p) (hok : PerOk0 p) :
  Calls Tryz.prog 75 #[v] w fun e w' => e = .returned (.bool true) ∧ Ext w w' := by
 obtain ⟨hv, cv, rfl, hh, hc⟩ := h
 obtain ⟨e0, f0, f1, q0, q1, hcl, hri⟩ := hok
 obtain ⟨f, fe⟩ : ∃ f, p.from_ = f := ⟨_, rfl⟩
 obtain ⟨q, qe⟩ : ∃ q, p.period = q := ⟨_, rfl⟩
 obtain ⟨cs, ce⟩ : ∃ cs, p.cycle = cs := ⟨_, rfl⟩
 rw [e0] at hh
 rw [ce] at hc hcl
 rw [qe, ce] at hri
 rw [fe] at f0 f1 ⊢
 rw [qe] at q0 q1 ⊢
 clear e0 fe qe ce
 obtain ⟨ha, hcp, rfl⟩ := hh.form
 obtain ⟨ca, cc, rfl⟩ := hc.form
 have hcl1 : Hid (∀ W, Ext w W → Calls Tryz.prog 101 #[.slice ha 0 hcp, .int .i64 f] W fun e w' => e = .returned (.bool true) ∧ Ext W w') := Lib.hid fun W hW => rising4_calls _ [] f W (hh.ext hW) rfl
 have hcl2 : Hid (∀ W, Ext w W → Calls Tryz.prog 101 #[.slice ca cs.length cc, .int .i64 q] W fun e w' => e = .returned (.bool true) ∧ Ext W w') := Lib.hid fun W hW => rising4_calls _ cs q W (hc.ext hW) hri
 have d1 : decide (f < 0) = false := decide_eq_false (by omega)
 have d2 : decide (1099511627776 < f) = false := decide_eq_false (by omega)
 have d3 : decide (q < 1) = false := decide_eq_false (by omega)
 have d4 : decide (1099511627776 < q) = false := decide_eq_false (by omega)
 obtain ⟨k, hk⟩ : ∃ k, Hid (cs.length = k) := ⟨_, rfl⟩
 rw [hk.out] at hcl2 hcl ⊢
 have d5 : decide (1048576 < (k : Int)) = false := decide_eq_false (by omega)
 clear hri hh hc
 go_enter Tryz.func75, Tryz.ntmps75
 go_wp2_with fail
 refine (hcl1.out _ (by with_reducible repeat' (first | exact Ext.refl _ | assumption | refine Ext.drewN ?_ _ | refine Ext.drew ?_ | refine Ext.alloc ?_ _ | refine Ext.trans ?_ (by with_reducible assumption)))).mono ?_
 rintro e w1 ⟨rfl, hx1⟩
 have hB : Hid (Blk w1 w.heap.size 131 #[.slice ha 0 hcp, .int .i64 f, .int .i64 q, .slice ca k cc]) := Lib.hid ((Keep.of_ext (X := fun _ => False) hx1).blk (blk_new' rfl rfl) id)
 have hE := Lib.hid (show Ext w w1 from Ext.trans (by exact (by with_reducible repeat' (first | exact Ext.refl _ | assumption | refine Ext.drewN ?_ _ | refine Ext.drew ?_ | refine Ext.alloc ?_ _ | refine Ext.trans ?_ (by with_reducible assumption)))) hx1)
 have c2 : w1.cell? ⟨w.heap.size, 2, none⟩ = some (.int .i64 q) := hB.out.cell 2
 have c3 : w1.cell? ⟨w.heap.size, 3, none⟩ = some (.slice ca k cc) := hB.out.cell 3
 have l0 := hB.out.lt
 clear hx1 hcl1
 go_wp2_with fail
 refine (hcl2.out _ hE.out).mono ?_
 rintro e w2 ⟨rfl, hx2⟩
 have hE2 := Lib.hid (hE.out.trans hx2)
 clear hx2 c2 c3 l0
 go_wp2
 go_ret
 exact ⟨rfl, hE2.out⟩
theorem per4Empty_calls (v : Value) (p : PerD) (w : World) (h : PerV w v p) (hok : PerOk0 p) :
  Calls Tryz.prog 50 #[v] w fun e w' => e = .returned (.bool (decide (p.cycle.length = 0))) ∧ Ext w w' := by
 have hv : Hid (∀ W, Ext w W → Calls Tryz.prog 75 #[v] W fun e w' => e = .returned (.bool true) ∧ Ext W w') := Lib.hid fun W hW => per4Valid_calls v p W (h.ext hW) hok
 obtain ⟨ha, ca, rfl, hh, hc⟩ := h
 obtain ⟨e0, _, _, _, _, hcl, _⟩ := hok
 rw [e0] at hh
 obtain ⟨a1, c1, rfl⟩ := hh.form
 obtain ⟨a2, c2, rfl⟩ := hc.form
 obtain ⟨k, hk⟩ : ∃ k, Hid (p.cycle.length = k) := ⟨_, rfl⟩
 obtain ⟨f, fe⟩ : ∃ f, p.from_ = f := ⟨_, rfl⟩
 obtain ⟨q, qe⟩ : ∃ q, p.period = q := ⟨_, rfl⟩
 rw [hk.out] at hv hcl ⊢
 rw [fe, qe] at hv ⊢
 rw [List.length_nil] at hv ⊢
 obtain ⟨qb, hqb⟩ : ∃ qb, Hid (decide (k = 0) = qb) := ⟨_, rfl⟩
 rw [hqb.out]
 clear hh hc e0 fe qe
 go_enter Tryz.func50, Tryz.ntmps50
 go_wp2_with fail
 refine (hv.out _ (by with_reducible repeat' (first | exact Ext.refl _ | assumption | refine Ext.drewN ?_ _ | refine Ext.drew ?_ | refine Ext.alloc ?_ _ | refine Ext.trans ?_ (by with_reducible assumption)))).mono ?_
 rintro e w1 ⟨rfl, hx1⟩
 have hB : Hid (Blk w1 w.heap.size 131 #[.slice a1 0 c1, .int .i64 f, .int .i64 q, .slice a2 k c2]) := Lib.hid ((Keep.of_ext (X := fun _ => False) hx1).blk (blk_new' rfl rfl) id)
 have hE := Lib.hid (show Ext w w1 from Ext.trans (by exact (by with_reducible repeat' (first | exact Ext.refl _ | assumption | refine Ext.drewN ?_ _ | refine Ext.drew ?_ | refine Ext.alloc ?_ _ | refine Ext.trans ?_ (by with_reducible assumption)))) hx1)
 have b0 : w1.cell? ⟨w.heap.size, 0, none⟩ = some (.slice a1 0 c1) := hB.out.cell 0
 have b3 : w1.cell? ⟨w.heap.size, 3, none⟩ = some (.slice a2 k c2) := hB.out.cell 3
 have l0 := hB.out.lt
 clear hx1 hv hk
 by_cases h0 : k = 0
 ·have R : Hid (qb = true) := Lib.hid (by rw [← hqb.out]; exact decide_eq_true h0)
  subst h0
  go_wp2
  go_ret
  rw [R.out]
  exact ⟨rfl, hE.out⟩
 ·have d0 : ((k : Int) == 0) = false := by rw [beq_eq_false_iff_ne]; omega
  have R : Hid (qb = false) := Lib.hid (by rw [← hqb.out]; exact decide_eq_false h0)
  clear h0
  go_wp2
  go_ret
  rw [R.out]
  exact ⟨rfl, hE.out⟩
end Go.Proofs.YtgolicoalldidaaGreat
