/- Walk of package plan: clash. -/
import Derived.Test.YtonmlmkemliefaaPlanWalksD
namespace Go.Proofs.Ytonmlmkemliefaa
open Go.RowKit

/-- what a clash asks of a wish: people in order, spans in order -/
def WishIn (x : WishD) : Prop := Inc x.people ∧ ∀ o ∈ x.opts, Chain o.spans

set_option maxHeartbeats 1600000 in
theorem clash_calls (va vb : Value) (a b : WishD) (i k : Nat) (x y : OptD) (w : World) (ha : WishV w va a) (hb : WishV w vb b) (oa : WishIn a) (ob : WishIn b)
    (hx : a.opts[i]? = some x) (hy : b.opts[k]? = some y) :
    Calls Try.prog 54 #[va, vb, .int .i64 i, .int .i64 k] w fun e w' => e = .returned (.bool (clashB a b x y)) ∧ Ext w w' := by
  obtain ⟨pv1, ov1, rfl, hp1, ho1⟩ := ha
  obtain ⟨pv2, ov2, rfl, hp2, ho2⟩ := hb
  obtain ⟨pa1, pc1, rfl⟩ := hp1.form
  obtain ⟨pa2, pc2, rfl⟩ := hp2.form
  obtain ⟨oa1, oc1, rfl, _, _, hat1⟩ := ho1.open
  obtain ⟨oa2, oc2, rfl, _, _, hat2⟩ := ho2.open
  have li : i < a.opts.length := (List.getElem?_eq_some_iff.1 hx).1
  have lk : k < b.opts.length := (List.getElem?_eq_some_iff.1 hy).1
  have l1 := ho1.len
  have l2 := ho2.len
  have ix : Chain x.spans := oa.2 x (List.mem_of_getElem? hx)
  have iy : Chain y.spans := ob.2 y (List.mem_of_getElem? hy)
  go_enter Try.func54, Try.ntmps54
  go_wp2_with fail
  refine wp_abs (S := fun W => Ext w W ∧ W.cell? ⟨w.heap.size, 1, none⟩ = some (.slice pa1 a.people.length pc1) ∧ W.cell? ⟨w.heap.size, 2, none⟩ = some (.slice oa1 a.opts.length oc1) ∧
      W.cell? ⟨w.heap.size + 1, 1, none⟩ = some (.slice pa2 b.people.length pc2) ∧ W.cell? ⟨w.heap.size + 1, 2, none⟩ = some (.slice oa2 b.opts.length oc2))
    ⟨(by repeat' (first | (with_reducible exact Ext.refl _) | (with_reducible assumption) | (with_reducible refine Ext.drewN ?_ _) | (with_reducible refine Ext.drew ?_) | (with_reducible refine Ext.alloc ?_ _) | (with_reducible refine Ext.trans ?_ (by with_reducible assumption)))), by simp, by simp, by simp, by simp⟩ ?_
  rintro W1 ⟨hx1, c1, c2, c3, c4⟩
  obtain ⟨b1, o1, x', sa1, sc1, rfl, hb1, _, ex, g1, g2, g3, gs⟩ := hat1 i li W1 hx1
  obtain ⟨b2, o2, y', sa2, sc2, rfl, hb2, _, ey, k1, k2, k3, ks⟩ := hat2 k lk W1 hx1
  obtain rfl : x = x' := Option.some.inj (hx.symm.trans ex.out)
  obtain rfl : y = y' := Option.some.inj (hy.symm.trans ey.out)
  have hB1 : w.heap.size < W1.heap.size := World.block_lt_of_cell? _ _ c1
  have hB2 : w.heap.size + 1 < W1.heap.size := World.block_lt_of_cell? _ _ c3
  have hcom : Hid (∀ W, Ext W1 W → Calls Try.prog 77 #[.slice pa1 a.people.length pc1, .slice pa2 b.people.length pc2] W fun e w' => e = .returned (.bool (shareB a.people b.people)) ∧ Ext W w') :=
    fun W hW => common_calls _ _ _ _ W ((hp1.ext hx1).ext hW) ((hp2.ext hx1).ext hW) oa.1 ob.1
  have hmeet : Hid (∀ W, Ext W1 W → Calls Try.prog 78 #[.slice sa1 x.spans.length sc1, .slice sa2 y.spans.length sc2] W fun e w' => e = .returned (.bool (meetB x.spans y.spans)) ∧ Ext W w') :=
    fun W hW => meet_calls _ _ _ _ W (gs.ext hW) (ks.ext hW) ix iy
  clear gs ks hp1 hp2 ho1 ho2 hat1 hat2 ix iy oa ob hx hy ex ey
  go_region
  · go_step
    go_step
    refine wp_abs (S := fun V => Ext W1 V ∧ V.cell? ⟨W1.heap.size, 1, none⟩ = some (.int .i64 x.room) ∧ V.cell? ⟨W1.heap.size, 2, none⟩ = some (.slice sa1 x.spans.length sc1) ∧
        V.cell? ⟨W1.heap.size + 1, 1, none⟩ = some (.int .i64 y.room) ∧ V.cell? ⟨W1.heap.size + 1, 2, none⟩ = some (.slice sa2 y.spans.length sc2)) ⟨(by repeat' (first | (with_reducible exact Ext.refl _) | (with_reducible assumption) | (with_reducible refine Ext.drewN ?_ _) | (with_reducible refine Ext.drew ?_) | (with_reducible refine Ext.alloc ?_ _) | (with_reducible refine Ext.trans ?_ (by with_reducible assumption)))), by simp, by simp, by simp, by simp⟩ ?_
    rintro V ⟨hxV, vx1, vx2, vy1, vy2⟩
    have d1 := hxV.cell c1
    have d2 := hxV.cell c3
    clear c1 c2 c3 c4 g1 g2 g3 k1 k2 k3
    have e1 : ∀ W, Ext V W → W.cell? ⟨W1.heap.size, 2, none⟩ = some (.slice sa1 x.spans.length sc1) := fun W h => h.cell vx2
    have e2 : ∀ W, Ext V W → W.cell? ⟨W1.heap.size + 1, 2, none⟩ = some (.slice sa2 y.spans.length sc2) := fun W h => h.cell vy2
    by_cases h1 : x.room = y.room
    · have h1' : (x.room == y.room) = true := by rw [beq_iff_eq]; exact h1
      by_cases h2 : 0 ≤ x.room
      · have R : Hid (meetB x.spans y.spans = clashB a b x y) := by show _ = _; unfold clashB; rw [decide_eq_true h1, decide_eq_true h2]; rfl
        clear h1 e1 e2
        go_wp2_with fail
        refine (hmeet.out _ hxV).mono ?_
        rintro e w2 ⟨rfl, hx2⟩
        rw [R.out]
        go_wp2
        go_ret
        exact ⟨rfl, (hx1.trans hxV).trans hx2⟩
      · cases hs : shareB a.people b.people with
        | true =>
          have R : Hid (meetB x.spans y.spans = clashB a b x y) := by show _ = _; simp [clashB, hs]
          rw [hs] at hcom
          clear h1 hs
          go_wp2_with fail
          refine (hcom.out _ hxV).mono ?_
          rintro e w2 ⟨rfl, hx2⟩
          have f1 := e1 w2 hx2
          have f2 := e2 w2 hx2
          clear e1 e2
          go_wp2_with fail
          refine (hmeet.out _ (hxV.trans hx2)).mono ?_
          rintro e w3 ⟨rfl, hx3⟩
          rw [R.out]
          go_wp2
          go_ret
          exact ⟨rfl, ((hx1.trans hxV).trans hx2).trans hx3⟩
        | false =>
          have R : Hid (clashB a b x y = false) := by show _ = _; simp [clashB, hs, h2]
          rw [hs] at hcom
          clear h1 hs e1 e2
          go_wp2_with fail
          refine (hcom.out _ hxV).mono ?_
          rintro e w2 ⟨rfl, hx2⟩
          go_wp2
          go_ret
          rw [R.out]
          exact ⟨rfl, (hx1.trans hxV).trans hx2⟩
    · have h1' : (x.room == y.room) = false := by rw [beq_eq_false_iff_ne]; exact h1
      cases hs : shareB a.people b.people with
      | true =>
        have R : Hid (meetB x.spans y.spans = clashB a b x y) := by show _ = _; simp [clashB, hs]
        rw [hs] at hcom
        clear h1 hs
        go_wp2_with fail
        refine (hcom.out _ hxV).mono ?_
        rintro e w2 ⟨rfl, hx2⟩
        have f1 := e1 w2 hx2
        have f2 := e2 w2 hx2
        clear e1 e2
        go_wp2_with fail
        refine (hmeet.out _ (hxV.trans hx2)).mono ?_
        rintro e w3 ⟨rfl, hx3⟩
        rw [R.out]
        go_wp2
        go_ret
        exact ⟨rfl, ((hx1.trans hxV).trans hx2).trans hx3⟩
      | false =>
        have R : Hid (clashB a b x y = false) := by show _ = _; simp [clashB, hs, h1]
        rw [hs] at hcom
        clear h1 hs e1 e2
        go_wp2_with fail
        refine (hcom.out _ hxV).mono ?_
        rintro e w2 ⟨rfl, hx2⟩
        go_wp2
        go_ret
        rw [R.out]
        exact ⟨rfl, (hx1.trans hxV).trans hx2⟩
  · go_step
    go_step
    refine wp_abs (S := fun V => Ext W1 V ∧ V.cell? ⟨W1.heap.size + 1, 1, none⟩ = some (.int .i64 x.room) ∧ V.cell? ⟨W1.heap.size + 1, 2, none⟩ = some (.slice sa1 x.spans.length sc1) ∧
        V.cell? ⟨W1.heap.size, 1, none⟩ = some (.int .i64 y.room) ∧ V.cell? ⟨W1.heap.size, 2, none⟩ = some (.slice sa2 y.spans.length sc2)) ⟨(by repeat' (first | (with_reducible exact Ext.refl _) | (with_reducible assumption) | (with_reducible refine Ext.drewN ?_ _) | (with_reducible refine Ext.drew ?_) | (with_reducible refine Ext.alloc ?_ _) | (with_reducible refine Ext.trans ?_ (by with_reducible assumption)))), by simp, by simp, by simp, by simp⟩ ?_
    rintro V ⟨hxV, vx1, vx2, vy1, vy2⟩
    have d1 := hxV.cell c1
    have d2 := hxV.cell c3
    clear c1 c2 c3 c4 g1 g2 g3 k1 k2 k3
    have e1 : ∀ W, Ext V W → W.cell? ⟨W1.heap.size + 1, 2, none⟩ = some (.slice sa1 x.spans.length sc1) := fun W h => h.cell vx2
    have e2 : ∀ W, Ext V W → W.cell? ⟨W1.heap.size, 2, none⟩ = some (.slice sa2 y.spans.length sc2) := fun W h => h.cell vy2
    by_cases h1 : x.room = y.room
    · have h1' : (x.room == y.room) = true := by rw [beq_iff_eq]; exact h1
      by_cases h2 : 0 ≤ x.room
      · have R : Hid (meetB x.spans y.spans = clashB a b x y) := by show _ = _; unfold clashB; rw [decide_eq_true h1, decide_eq_true h2]; rfl
        clear h1 e1 e2
        go_wp2_with fail
        refine (hmeet.out _ hxV).mono ?_
        rintro e w2 ⟨rfl, hx2⟩
        rw [R.out]
        go_wp2
        go_ret
        exact ⟨rfl, (hx1.trans hxV).trans hx2⟩
      · cases hs : shareB a.people b.people with
        | true =>
          have R : Hid (meetB x.spans y.spans = clashB a b x y) := by show _ = _; simp [clashB, hs]
          rw [hs] at hcom
          clear h1 hs
          go_wp2_with fail
          refine (hcom.out _ hxV).mono ?_
          rintro e w2 ⟨rfl, hx2⟩
          have f1 := e1 w2 hx2
          have f2 := e2 w2 hx2
          clear e1 e2
          go_wp2_with fail
          refine (hmeet.out _ (hxV.trans hx2)).mono ?_
          rintro e w3 ⟨rfl, hx3⟩
          rw [R.out]
          go_wp2
          go_ret
          exact ⟨rfl, ((hx1.trans hxV).trans hx2).trans hx3⟩
        | false =>
          have R : Hid (clashB a b x y = false) := by show _ = _; simp [clashB, hs, h2]
          rw [hs] at hcom
          clear h1 hs e1 e2
          go_wp2_with fail
          refine (hcom.out _ hxV).mono ?_
          rintro e w2 ⟨rfl, hx2⟩
          go_wp2
          go_ret
          rw [R.out]
          exact ⟨rfl, (hx1.trans hxV).trans hx2⟩
    · have h1' : (x.room == y.room) = false := by rw [beq_eq_false_iff_ne]; exact h1
      cases hs : shareB a.people b.people with
      | true =>
        have R : Hid (meetB x.spans y.spans = clashB a b x y) := by show _ = _; simp [clashB, hs]
        rw [hs] at hcom
        clear h1 hs
        go_wp2_with fail
        refine (hcom.out _ hxV).mono ?_
        rintro e w2 ⟨rfl, hx2⟩
        have f1 := e1 w2 hx2
        have f2 := e2 w2 hx2
        clear e1 e2
        go_wp2_with fail
        refine (hmeet.out _ (hxV.trans hx2)).mono ?_
        rintro e w3 ⟨rfl, hx3⟩
        rw [R.out]
        go_wp2
        go_ret
        exact ⟨rfl, ((hx1.trans hxV).trans hx2).trans hx3⟩
      | false =>
        have R : Hid (clashB a b x y = false) := by show _ = _; simp [clashB, hs, h1]
        rw [hs] at hcom
        clear h1 hs e1 e2
        go_wp2_with fail
        refine (hcom.out _ hxV).mono ?_
        rintro e w2 ⟨rfl, hx2⟩
        go_wp2
        go_ret
        rw [R.out]
        exact ⟨rfl, (hx1.trans hxV).trans hx2⟩

end Go.Proofs.Ytonmlmkemliefaa
