/- Walks of the reference of plans: SameNodes at two slices that read alike. -/
import Derived.Test.YtjglidlmpjmjeaaGreatDoorPJ
import Derived.Test.YtjglidlmpjmjeaaGreatDoorHE
import Derived.Deep.Cut
namespace Go.Proofs.YtjglidlmpjmjeaaGreatDoor
open Go.RowKit

set_option maxHeartbeats 3200000 in
set_option maxRecDepth 100000 in
theorem rSame_calls (av bv : Value) (l : List NodeD) (w : World) (ha : Nodes w av l) (hb : Nodes w bv l) :
  Calls Tryz.prog 21 #[av, bv] w fun e w' => e = .returned (.bool true) ∧ Ext w w' := by
 obtain ⟨aa, ac, rfl, han, hac, hat⟩ := ha.open
 obtain ⟨ba, bc, rfl, hbn, hbc, hbt⟩ := hb.open
 have e0 : ((l.length : Int) != (l.length : Int)) = false := by simp
 clear ha hb
 go_enter Tryz.func21, Tryz.ntmps21
 go_wp2_with fail
 clear e0
 go_loopw [5, 6] (fun vi _ wr => ∃ i : Nat, i ≤ l.length ∧ vi = .int .i64 i ∧ Hid (Ext w wr)) (fun vi _ _ => l.length - (intOf vi).toNat)
 case atStart => exact ⟨0, by omega, rfl, Lib.hid (Ext.refl _)⟩
 case round =>
  obtain ⟨i, hi, rfl, hx⟩ := hrel
  by_cases h1 : i < l.length
  ·obtain ⟨b1, o1, x, ka, kc, rfl, hb1, _, ex, k0, k1, k2, k3, hk⟩ := hat i h1 wr hx.out
   obtain ⟨b2, o2, y, ka2, kc2, rfl, hb2, _, ey, m0, m1, m2, m3, hm⟩ := hbt i h1 wr hx.out
   obtain rfl : x = y := Option.some.inj (ex.out.symm.trans ey.out)
   obtain ⟨hkat, _⟩ := Ints.at_ hk
   obtain ⟨hmat, _⟩ := Ints.at_ hm
   have hkl := hk.len
   have e0 : (x.wish != x.wish) = false := by simp
   have e1 : (x.clA != x.clA) = false := by simp
   have e2 : (x.clB != x.clB) = false := by simp
   have e3 : ((x.kids.length : Int) != (x.kids.length : Int)) = false := by simp
   clear hat hbt ex ey hk hm
   go_wp2_with fail
   have z0 := After.cell k0
   have z1 := After.cell k1
   have z2 := After.cell k2
   have z3 := After.cell k3
   have y0 := After.cell m0
   have y1 := After.cell m1
   have y2 := After.cell m2
   have y3 := After.cell m3
   refine wp_region_after (by kernel_rfl) (by kernel_rfl) ?_
   repeat (go_big_quiet_step (fail))
   refine wpQuiet_nil ?_
   rintro _ ⟨u, rfl⟩
   have hu := u.ext
   generalize u.world = V at hu ⊢
   have hV := Lib.hid hu
   clear z0 z1 z2 z3 y0 y1 y2 y3 e0 e1 e2 e3 hu
   go_wp2_with fail
   go_loopw [6] (fun vj wk => ∃ j : Nat, j ≤ x.kids.length ∧ vj = .int .i64 j ∧ Hid (Ext V wk)) (fun vj _ => x.kids.length - (intOf vj).toNat)
   case atStart => exact ⟨0, by omega, rfl, Lib.hid (Ext.refl _)⟩
   case round =>
    obtain ⟨j, hj, rfl, hx3⟩ := hrel
    have hxr := Lib.hid (hV.out.trans hx3.out)
    have hxa := Lib.hid (hx.out.trans hxr.out)
    have q1 := hxr.out.cell k1
    have q2 := hxr.out.cell m1
    by_cases h2 : j < x.kids.length
    ·obtain ⟨b3, o3, y, rfl, hb3, _, ey, n0⟩ := hkat j h2 wr hxr.out
     obtain ⟨b4, o4, z, rfl, hb4, _, ez, n1⟩ := hmat j h2 wr hxr.out
     obtain rfl : y = z := Option.some.inj (ey.out.symm.trans ez.out)
     have e0 : (y != y) = false := by simp
     clear hkat hmat ey ez k0 k1 k2 k3 m0 m1 m2 m3
     go_wp2_with fail
     have z0 := After.cell q1
     have z1 := After.cell q2
     have z2 := After.cell n0
     have z3 := After.cell n1
     refine wp_region_after (by kernel_rfl) (by kernel_rfl) ?_
     repeat (go_big_quiet_step (fail))
     refine wpQuiet_nil ?_
     rintro _ ⟨u2, rfl⟩
     have hu := u2.ext
     generalize u2.world = V2 at hu ⊢
     have hV2 := Lib.hid (hx3.out.trans hu)
     clear z0 z1 z2 z3 e0 hu q1 q2 n0 n1
     go_wp2
     go_roundw
     case rel => exact ⟨j + 1, by omega, by go_num, hV2⟩
     case measure => simp [intOf]; omega
    ·clear hkat hmat k0 k1 k2 k3 m0 m1 m2 m3
     go_wp2
     go_roundw
     case rel => exact ⟨i + 1, by omega, by go_num, hxa⟩
     case measure => simp [intOf]; omega
  ·clear hat hbt
   go_wp2
   go_ret
   exact ⟨rfl, hx.out⟩
end Go.Proofs.YtjglidlmpjmjeaaGreatDoor
