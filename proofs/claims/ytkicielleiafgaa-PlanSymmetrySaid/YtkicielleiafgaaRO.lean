/- Walks of the reference of plans: SamePlan. -/
import Derived.Test.YtkicielleiafgaaPJ
import Derived.Test.YtkicielleiafgaaHE
import Derived.Deep.Cut
namespace Go.Proofs.Ytkicielleiafgaa
open Go.RowKit

def samePlanB (p : List Int) (h : Int) (q : List Int) (g : Int) : Bool := decide (p = q) && decide (h = g)
theorem take_all {p q : List Int} {i : Nat} (h : p.take i = q.take i) (hi : p.length ≤ i) (hl : p.length = q.length) : p = q := by
  rw [List.take_of_length_le hi, List.take_of_length_le (by omega)] at h; exact h
theorem take_ne {p q : List Int} {i : Nat} {x y : Int} (hx : p[i]? = some x) (hy : q[i]? = some y) (h : x ≠ y) : p ≠ q := fun e => by
  subst e; rw [hx] at hy; exact h (Option.some.inj hy)
theorem take_more {p q : List Int} {i : Nat} {x : Int} (h : p.take i = q.take i) (hx : p[i]? = some x) (hy : q[i]? = some x) : p.take (i + 1) = q.take (i + 1) := by
  rw [List.take_add_one, List.take_add_one, h, hx, hy]
set_option maxHeartbeats 1600000 in
set_option maxRecDepth 100000 in
theorem samePlan_calls (pv qv : Value) (p q : List Int) (h g : Int) (w : World) (hp : Ints w pv p) (hq : Ints w qv q) :
    Calls Try.prog 42 #[.agg #[pv, .int .i64 h], .agg #[qv, .int .i64 g]] w fun e w' => e = .returned (.bool (samePlanB p h q g)) ∧ Ext w w' := by
  obtain ⟨pa, pc, rfl, hpn, hpc, hpat⟩ := hp.open
  obtain ⟨qa, qc, rfl, hqn, hqc, hqat⟩ := hq.open
  have hpat' := Lib.hid hpat
  have hqat' := Lib.hid hqat
  clear hp hq hpat hqat
  by_cases hhg : h = g
  · have e1 : (h == g) = true := by rw [beq_iff_eq]; exact hhg
    have e2 : (h != g) = false := by rw [bne, e1]; rfl
    by_cases hl : p.length = q.length
    · have e3 : ((p.length : Int) == (q.length : Int)) = true := by rw [hl]; simp
      have e4 : ((p.length : Int) != (q.length : Int)) = false := by rw [bne, e3]; rfl
      have hl' := Lib.hid hl
      have hlt : ∀ i, i < p.length → i < q.length := fun i hi => by omega
      have hhg' := Lib.hid hhg
      have hlt' := Lib.hid hlt
      clear hl hhg hlt
      go_enter Try.func42, Try.ntmps42
      go_upto_region 1 with (fail)
      refine wp_abs (S := fun W => Hid (Ext w W) ∧ Hid (Blk W w.heap.size 67 #[.slice pa p.length pc, .int .i64 h]) ∧ Hid (Blk W (w.heap.size + 1) 67 #[.slice qa q.length qc, .int .i64 g])) ?_ ?_
      · exact ⟨Lib.hid (by exact (by repeat' (first | (with_reducible exact Ext.refl _) | (with_reducible assumption) | (with_reducible refine Ext.drewN ?_ _) | (with_reducible refine Ext.drew ?_) | (with_reducible refine Ext.alloc ?_ _) | (with_reducible refine Ext.trans ?_ (by with_reducible assumption))))), Lib.hid (Blk.alloc (blk_new' rfl rfl) _), Lib.hid (blk_new' (by simp only [World.size_alloc]) rfl)⟩
      rintro W ⟨hW, B0, B1⟩
      have c0 : W.cell? ⟨w.heap.size, 0, none⟩ = some (.slice pa p.length pc) := B0.out.cell 0
      have c1 : W.cell? ⟨w.heap.size, 1, none⟩ = some (.int .i64 h) := B0.out.cell 1
      have c2 : W.cell? ⟨w.heap.size + 1, 0, none⟩ = some (.slice qa q.length qc) := B1.out.cell 0
      have c3 : W.cell? ⟨w.heap.size + 1, 1, none⟩ = some (.int .i64 g) := B1.out.cell 1
      go_wp2_with fail
      go_loopw [5] (fun vi wr => ∃ i : Nat, i ≤ p.length ∧ vi = .int .i64 i ∧ Hid (Ext W wr) ∧ Hid (p.take i = q.take i)) (fun vi _ => p.length - (intOf vi).toNat)
      case atStart => exact ⟨0, by omega, rfl, Lib.hid (Ext.refl _), rfl⟩
      case round =>
        obtain ⟨i, hi, rfl, hx, hE⟩ := hrel
        have d0 := hx.out.cell c0
        by_cases h1 : i < p.length
        · have h1q := hlt'.out i h1
          have hxw := hW.out.trans hx.out
          obtain ⟨b1, o1, x, rfl, hb1, _, ex, g1⟩ := hpat'.out i h1 wr hxw
          obtain ⟨b2, o2, y, rfl, hb2, _, ey, g2⟩ := hqat'.out i h1q wr hxw
          have z0 := After.cell (hx.out.cell c0)
          have z2 := After.cell (hx.out.cell c2)
          have y1 := After.cell g1
          have y2 := After.cell g2
          clear g1 g2
          by_cases hxy : x = y
          · have e5 : (x == y) = true := by rw [beq_iff_eq]; exact hxy
            have e6 : (x != y) = false := by rw [bne, e5]; rfl
            have hN : Hid (p.take (i + 1) = q.take (i + 1)) := take_more hE.out ex.out (by rw [hxy]; exact ey.out)
            clear hxy
            go_wp2_with fail
            refine wp_region_after (by kernel_rfl) (by kernel_rfl) ?_
            (repeat (go_big_quiet_step (fail)))
            with_reducible refine wpQuiet_nil ?_
            rintro _ ⟨u, rfl⟩
            have hu := u.ext
            generalize u.world = V at hu ⊢
            clear z0 z2 y1 y2
            go_wp2
            go_roundw
            case rel => exact ⟨i + 1, by omega, by go_num, Lib.hid (hx.out.trans hu), hN⟩
            case measure => simp [intOf]; omega
          · have e5 : (x == y) = false := by rw [beq_eq_false_iff_ne]; exact hxy
            have e6 : (x != y) = true := by rw [bne, e5]; rfl
            have R : Hid (samePlanB p h q g = false) := by show _ = _; simp [samePlanB, take_ne ex.out ey.out hxy]
            clear hxy
            go_wp2_with fail
            refine wp_region_after (by kernel_rfl) (by kernel_rfl) ?_
            (repeat (go_big_quiet_step (fail)))
            with_reducible refine wpQuiet_nil ?_
            rintro _ ⟨u, rfl⟩
            have hu := u.ext
            generalize u.world = V at hu ⊢
            clear z0 z2 y1 y2
            go_wp2
            go_ret
            rw [R.out]
            exact ⟨rfl, hxw.trans hu⟩
        · have R : Hid (samePlanB p h q g = true) := by show _ = _; simp [samePlanB, take_all hE.out (by omega) hl'.out, hhg'.out]
          go_wp2
          go_ret
          rw [R.out]
          exact ⟨rfl, hW.out.trans hx.out⟩
    · have e3 : ((p.length : Int) == (q.length : Int)) = false := by rw [beq_eq_false_iff_ne]; omega
      have e4 : ((p.length : Int) != (q.length : Int)) = true := by rw [bne, e3]; rfl
      have R : Hid (samePlanB p h q g = false) := by show _ = _; simp [samePlanB]; intro e; subst e; exact absurd rfl hl
      clear hl hhg
      go_enter Try.func42, Try.ntmps42
      go_upto_region 1 with (fail)
      refine wp_abs (S := fun W => Hid (Ext w W) ∧ Hid (Blk W w.heap.size 67 #[.slice pa p.length pc, .int .i64 h]) ∧ Hid (Blk W (w.heap.size + 1) 67 #[.slice qa q.length qc, .int .i64 g])) ?_ ?_
      · exact ⟨Lib.hid (by exact (by repeat' (first | (with_reducible exact Ext.refl _) | (with_reducible assumption) | (with_reducible refine Ext.drewN ?_ _) | (with_reducible refine Ext.drew ?_) | (with_reducible refine Ext.alloc ?_ _) | (with_reducible refine Ext.trans ?_ (by with_reducible assumption))))), Lib.hid (Blk.alloc (blk_new' rfl rfl) _), Lib.hid (blk_new' (by simp only [World.size_alloc]) rfl)⟩
      rintro W ⟨hW, B0, B1⟩
      have c0 : W.cell? ⟨w.heap.size, 0, none⟩ = some (.slice pa p.length pc) := B0.out.cell 0
      have c1 : W.cell? ⟨w.heap.size, 1, none⟩ = some (.int .i64 h) := B0.out.cell 1
      have c2 : W.cell? ⟨w.heap.size + 1, 0, none⟩ = some (.slice qa q.length qc) := B1.out.cell 0
      have c3 : W.cell? ⟨w.heap.size + 1, 1, none⟩ = some (.int .i64 g) := B1.out.cell 1
      go_wp2
      go_ret
      rw [R.out]
      exact ⟨rfl, hW.out⟩
  · have e1 : (h == g) = false := by rw [beq_eq_false_iff_ne]; exact hhg
    have e2 : (h != g) = true := by rw [bne, e1]; rfl
    have R : Hid (samePlanB p h q g = false) := by show _ = _; simp [samePlanB, hhg]
    clear hhg
    go_enter Try.func42, Try.ntmps42
    go_upto_region 1 with (fail)
    refine wp_abs (S := fun W => Hid (Ext w W) ∧ Hid (Blk W w.heap.size 67 #[.slice pa p.length pc, .int .i64 h]) ∧ Hid (Blk W (w.heap.size + 1) 67 #[.slice qa q.length qc, .int .i64 g])) ?_ ?_
    · exact ⟨Lib.hid (by exact (by repeat' (first | (with_reducible exact Ext.refl _) | (with_reducible assumption) | (with_reducible refine Ext.drewN ?_ _) | (with_reducible refine Ext.drew ?_) | (with_reducible refine Ext.alloc ?_ _) | (with_reducible refine Ext.trans ?_ (by with_reducible assumption))))), Lib.hid (Blk.alloc (blk_new' rfl rfl) _), Lib.hid (blk_new' (by simp only [World.size_alloc]) rfl)⟩
    rintro W ⟨hW, B0, B1⟩
    have c0 : W.cell? ⟨w.heap.size, 0, none⟩ = some (.slice pa p.length pc) := B0.out.cell 0
    have c1 : W.cell? ⟨w.heap.size, 1, none⟩ = some (.int .i64 h) := B0.out.cell 1
    have c2 : W.cell? ⟨w.heap.size + 1, 0, none⟩ = some (.slice qa q.length qc) := B1.out.cell 0
    have c3 : W.cell? ⟨w.heap.size + 1, 1, none⟩ = some (.int .i64 g) := B1.out.cell 1
    go_wp2
    go_ret
    rw [R.out]
    exact ⟨rfl, hW.out⟩
end Go.Proofs.Ytkicielleiafgaa
