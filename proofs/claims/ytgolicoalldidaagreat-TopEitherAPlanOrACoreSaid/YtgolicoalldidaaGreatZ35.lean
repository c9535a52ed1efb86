import Derived.Test.YtgolicoalldidaaGreatZ22
import Derived.Test.YtgolicoalldidaaGreatZ33
set_option maxHeartbeats 12800000
namespace Go.Proofs.YtgolicoalldidaaGreat
open Go.RowKit
theorem hJ {p : Prop} (h : p) : Hid p := h
theorem index_int_calls (va : Value) (l : List Int) (x : Int) (w : World) (h : Ints w va l) :
  Calls Tryz.prog 124 #[va, .int .i64 x] w fun e w' => e = .returned (.int .i64 (findI (fun y => decide (x = y)) l)) ∧ Ext w w' := by
 obtain ⟨a, c, rfl, hn, hc, hat⟩ := h.open
 clear h
 go_enter Tryz.func124, Tryz.ntmps124
 go_wp2_with fail
 go_loopw [8] (fun vi wr => ∃ i : Nat, i ≤ l.length ∧ vi = .int .i64 i ∧ Ext w wr ∧ Hid (FindAt (fun y => decide (x = y)) l i)) (fun vi _ => l.length - (intOf vi).toNat)
 case atStart => exact ⟨0, by omega, rfl, Ext.refl _, FindAt.zero _ _⟩
 case round =>
  obtain ⟨i, hi, rfl, hx, hF⟩ := hrel
  by_cases h1 : i < l.length
  ·obtain ⟨b1, o1, y, rfl, hb1, dx, ex, g1⟩ := hat i h1 wr hx
   by_cases hp : x = y
   ·have R := hJ (hF.out.hit ex.out (by simpa using hp))
    have d1 : (x == y) = true := by simp [hp]
    clear hp
    go_wp2
    go_ret
    rw [R.out]
    exact ⟨rfl, hx⟩
   ·have R := hJ (hF.out.miss ex.out (by simpa using hp))
    have d1 : (x == y) = false := by simp [hp]
    clear hp
    go_wp2
    go_roundw
    case rel => exact ⟨i + 1, by omega, by go_num, hx, R⟩
    case measure => simp [intOf]; omega
  ·have R := hJ (hF.out.none (by omega))
   go_wp2
   go_ret
   rw [R.out]
   exact ⟨rfl, hx⟩
def hasI (l : List Int) (x : Int) : Bool := l.any fun y => decide (x = y)
theorem hasI_contains (l : List Int) (x : Int) : hasI l x = l.contains x := by
 unfold hasI
 induction l with
 | nil => rfl
 | cons y l ih => rw [List.any_cons, List.contains_cons, ih]; rfl
theorem contains_int_calls (va : Value) (l : List Int) (x : Int) (w : World) (h : Ints w va l) :
  Calls Tryz.prog 98 #[va, .int .i64 x] w fun e w' => e = .returned (.bool (hasI l x)) ∧ Ext w w' := by
 have hc := hJ (index_int_calls va l x w h)
 have R := (hJ (findI_ge (fun y => decide (x = y)) l) : Hid (_ = hasI l x))
 clear h
 go_enter Tryz.func98, Tryz.ntmps98
 go_wp2_with fail
 refine hc.out.mono ?_
 rintro e w1 ⟨rfl, hx1⟩
 go_wp2
 go_ret
 rw [R.out]
 exact ⟨rfl, hx1⟩
theorem meet1_calls (q : Value) (b : Nat) (x : Int) (m : Int) (pv ov : Value) (l : List Int) (w : World) (hl : Ints w pv l) (hb : Blk w b 64 #[.int .i64 m, pv, ov]) (hq : q = .pointer (some ⟨b, 0, none⟩)) :
  Calls Tryz.prog 97 #[.int .i64 x, q] w fun e w' => e = .returned (.bool (hasI l x)) ∧ Ext w w' := by
 subst hq
 have hT := hJ hl
 obtain ⟨la, lc, rfl⟩ := hl.form
 have c1 : w.cell? ⟨b, 1, none⟩ = some (.slice la l.length lc) := hb.cell 1
 have hlt := hb.lt
 clear hl hb
 go_enter Tryz.func97, Tryz.ntmps97
 go_wp2_with fail
 refine (contains_int_calls _ l x _ hT.out).mono ?_
 rintro e w1 ⟨rfl, hx1⟩
 go_wp2
 go_ret
 exact ⟨rfl, hx1⟩
theorem shareI (a b : List Int) : (a.any fun n => hasI b n) = shareB a b := by
 unfold shareB
 congr 1
 funext n
 exact hasI_contains b n
def SpOk (l : List (Int × Int)) : Prop := rangedB l = true ∧ (∀ s ∈ l, s.1 < s.2) ∧ l.length ≤ 100000
theorem meet_core_calls (va vb vo vp : Value) (a b : WishD) (x y : OptD) (w : World) (ha : WishV w va a) (hb : WishV w vb b) (hx : OptV w vo x) (hy : OptV w vp y) (sx : SpOk x.spans) (sy : SpOk y.spans) :
  Calls Tryz.prog 73 #[va, vb, vo, vp] w fun e w' => e = .returned (.bool (clashB a b x y)) ∧ Ext w w' := by
 obtain ⟨pv, ov, rfl, hpa, hoa⟩ := ha
 obtain ⟨pw, ow, rfl, hpb, hob⟩ := hb
 obtain ⟨sv, rfl, hsx⟩ := hx
 obtain ⟨sw, rfl, hsy⟩ := hy
 have hP := hJ hpa
 have hQ := hJ hpb
 have hS := hJ hsx
 have hT := hJ hsy
 obtain ⟨pA, pC, rfl⟩ := hpa.form
 obtain ⟨qA, qC, rfl⟩ := hpb.form
 obtain ⟨oA, oC, rfl⟩ := hoa.form
 obtain ⟨oB, oD, rfl⟩ := hob.form
 obtain ⟨sA, sC, rfl⟩ := hsx.form
 obtain ⟨tA, tC, rfl⟩ := hsy.form
 clear hpa hpb hoa hob hsx hsy
 have hm : Hid (∀ W, Ext w W → Calls Tryz.prog 52 #[.slice sA x.spans.length sC, .slice tA y.spans.length tC] W fun e w' => ∃ v, e = .returned (.tuple #[v, .int .i64 0]) ∧ SpansR w' W.heap.size v (combL 1 x.spans y.spans) ∧ Ext W w') := fun W hW => by
  have h := spanMeet_calls _ _ x.spans y.spans W (hS.out.ext hW) (hT.out.ext hW) sx.2.2 sy.2.2
  unfold CombOut at h
  rwa [combT_ok sx.1 sy.1] at h
 have hmeet : Hid (decide (0 < (combL 1 x.spans y.spans).length) = meetB x.spans y.spans) := comb_meet sx.2.1 sy.2.1
 obtain ⟨q, hq⟩ : ∃ q, Hid (shareB a.people b.people = q) := ⟨_, rfl⟩
 have hcl : Hid (clashB a b x y = ((decide (x.room = y.room) && decide (0 ≤ x.room) || q) && meetB x.spans y.spans)) := by show _ = _; unfold clashB; rw [hq.out]
 clear sx sy
 obtain ⟨r1, hr1⟩ : ∃ r, x.room = r := ⟨_, rfl⟩
 obtain ⟨r2, hr2⟩ : ∃ r, y.room = r := ⟨_, rfl⟩
 obtain ⟨h1, hh1⟩ : ∃ r, x.harm = r := ⟨_, rfl⟩
 obtain ⟨h2, hh2⟩ : ∃ r, y.harm = r := ⟨_, rfl⟩
 rw [hr1, hr2] at hcl
 rw [hr1, hr2, hh1, hh2]
 clear hr1 hr2 hh1 hh2
 cases q with
 | true =>
  have R : Hid (clashB a b x y = meetB x.spans y.spans) := by show _ = _; rw [hcl.out, Bool.or_true, Bool.true_and]
  clear hcl
  go_enter Tryz.func73, Tryz.ntmps73
  go_upto_region 1 with (fail)
  refine wp_abs (S := fun W => Hid (Ext w W) ∧ Hid (Blk W w.heap.size 64 #[.int .i64 a.meeting, .slice pA a.people.length pC, .slice oA a.opts.length oC]) ∧ Hid (Blk W (w.heap.size + 1) 64 #[.int .i64 b.meeting, .slice qA b.people.length qC, .slice oB b.opts.length oD]) ∧ Hid (Blk W (w.heap.size + 2) 77 #[.int .i64 h1, .int .i64 r1, .slice sA x.spans.length sC]) ∧ Hid (Blk W (w.heap.size + 3) 77 #[.int .i64 h2, .int .i64 r2, .slice tA y.spans.length tC])) ?_ ?_
  ·exact ⟨hJ (by exact (by with_reducible repeat' (first | exact Ext.refl _ | assumption | refine Ext.drewN ?_ _ | refine Ext.drew ?_ | refine Ext.alloc ?_ _ | refine Ext.trans ?_ (by with_reducible assumption)))), hJ (Blk.alloc (Blk.alloc (Blk.alloc (blk_new' rfl rfl) _) _) _), hJ (Blk.alloc (Blk.alloc (blk_new' (by simp) rfl) _) _), hJ (Blk.alloc (blk_new' (by simp) rfl) _), hJ (blk_new' (by simp) rfl)⟩
  rintro W1 ⟨hE, hB1, hB2, hB3, hB4⟩
  have hcf : Hid (Calls Tryz.prog 56 #[.slice pA a.people.length pC, .func (.func 97) #[] #[.pointer (some ⟨w.heap.size + 1, 0, none⟩)]] W1 fun e w' => e = .returned (.bool true) ∧ Ext W1 w') := by
   have := containsFunc_intC_calls (.slice pA a.people.length pC) (.pointer (some ⟨w.heap.size + 1, 0, none⟩)) a.people 97 (fun _ _ => by kernel_rfl) (hasI b.people) W1 (hP.out.ext hE.out) (fun s _ W' hW' => meet1_calls _ (w.heap.size + 1) s b.meeting (.slice qA b.people.length qC) (.slice oB b.opts.length oD) b.people W' (hQ.out.ext (hE.out.trans hW')) ((Keep.of_ext (X := fun _ => False) hW').blk hB2.out id) rfl)
   rw [shareI, hq.out] at this
   exact this
  have c1 : W1.cell? ⟨w.heap.size, 1, none⟩ = some (.slice pA a.people.length pC) := hB1.out.cell 1
  go_wp2_with fail
  refine hcf.out.mono ?_
  rintro e W2 ⟨rfl, hx2⟩
  have k1 : W2.cell? ⟨w.heap.size + 2, 1, none⟩ = some (.int .i64 r1) := ((Keep.of_ext (X := fun _ => False) hx2).blk hB3.out id).cell 1
  have k2 : W2.cell? ⟨w.heap.size + 3, 1, none⟩ = some (.int .i64 r2) := ((Keep.of_ext (X := fun _ => False) hx2).blk hB4.out id).cell 1
  have k3 : W2.cell? ⟨w.heap.size + 2, 2, none⟩ = some (.slice sA x.spans.length sC) := ((Keep.of_ext (X := fun _ => False) hx2).blk hB3.out id).cell 2
  have k4 : W2.cell? ⟨w.heap.size + 3, 2, none⟩ = some (.slice tA y.spans.length tC) := ((Keep.of_ext (X := fun _ => False) hx2).blk hB4.out id).cell 2
  have hE2 := hJ (hE.out.trans hx2)
  clear hx2 hcf hB1 hB2 hB3 hB4 hE c1
  go_wp2_with fail
  refine (hm.out _ hE2.out).mono ?_
  rintro e W3 ⟨v, rfl, hv, hx3⟩
  obtain ⟨mA, mC, rfl⟩ := hv.read.form
  obtain ⟨n, hn⟩ : ∃ n, Hid ((combL 1 x.spans y.spans).length = n) := ⟨_, rfl⟩
  rw [hn.out]
  have R2 : Hid (clashB a b x y = decide (0 < n)) := by show _ = _; rw [R.out, ← hmeet.out, hn.out]
  have hE3 := hJ (hE2.out.trans hx3)
  clear hv hx3 hE2 R hn hmeet k1 k2 k3 k4
  by_cases hn0 : 0 < n
  ·have d9 : decide (0 < (n : Int)) = true := decide_eq_true (by omega)
   have R3 : Hid (clashB a b x y = true) := by show _ = _; rw [R2.out, decide_eq_true hn0]
   go_wp2
   go_ret
   rw [R3.out]
   exact ⟨rfl, hE3.out⟩
  ·have d9 : decide (0 < (n : Int)) = false := decide_eq_false (by omega)
   have R3 : Hid (clashB a b x y = false) := by show _ = _; rw [R2.out, decide_eq_false hn0]
   go_wp2
   go_ret
   rw [R3.out]
   exact ⟨rfl, hE3.out⟩
 | false =>
  by_cases k0 : r1 < 0
  ·have d1 : decide (r1 < 0) = true := decide_eq_true k0
   have hd : (decide (r1 = r2) && decide (0 ≤ r1) || false) = false := by rw [decide_eq_false (show ¬ 0 ≤ r1 by omega)]; simp
   clear k0
   have R : Hid (clashB a b x y = false) := by show _ = _; rw [hcl.out, hd]; rfl
   clear hcl hd
   go_enter Tryz.func73, Tryz.ntmps73
   go_upto_region 1 with (fail)
   refine wp_abs (S := fun W => Hid (Ext w W) ∧ Hid (Blk W w.heap.size 64 #[.int .i64 a.meeting, .slice pA a.people.length pC, .slice oA a.opts.length oC]) ∧ Hid (Blk W (w.heap.size + 1) 64 #[.int .i64 b.meeting, .slice qA b.people.length qC, .slice oB b.opts.length oD]) ∧ Hid (Blk W (w.heap.size + 2) 77 #[.int .i64 h1, .int .i64 r1, .slice sA x.spans.length sC]) ∧ Hid (Blk W (w.heap.size + 3) 77 #[.int .i64 h2, .int .i64 r2, .slice tA y.spans.length tC])) ?_ ?_
   ·exact ⟨hJ (by exact (by with_reducible repeat' (first | exact Ext.refl _ | assumption | refine Ext.drewN ?_ _ | refine Ext.drew ?_ | refine Ext.alloc ?_ _ | refine Ext.trans ?_ (by with_reducible assumption)))), hJ (Blk.alloc (Blk.alloc (Blk.alloc (blk_new' rfl rfl) _) _) _), hJ (Blk.alloc (Blk.alloc (blk_new' (by simp) rfl) _) _), hJ (Blk.alloc (blk_new' (by simp) rfl) _), hJ (blk_new' (by simp) rfl)⟩
   rintro W1 ⟨hE, hB1, hB2, hB3, hB4⟩
   have hcf : Hid (Calls Tryz.prog 56 #[.slice pA a.people.length pC, .func (.func 97) #[] #[.pointer (some ⟨w.heap.size + 1, 0, none⟩)]] W1 fun e w' => e = .returned (.bool false) ∧ Ext W1 w') := by
    have := containsFunc_intC_calls (.slice pA a.people.length pC) (.pointer (some ⟨w.heap.size + 1, 0, none⟩)) a.people 97 (fun _ _ => by kernel_rfl) (hasI b.people) W1 (hP.out.ext hE.out) (fun s _ W' hW' => meet1_calls _ (w.heap.size + 1) s b.meeting (.slice qA b.people.length qC) (.slice oB b.opts.length oD) b.people W' (hQ.out.ext (hE.out.trans hW')) ((Keep.of_ext (X := fun _ => False) hW').blk hB2.out id) rfl)
    rw [shareI, hq.out] at this
    exact this
   have c1 : W1.cell? ⟨w.heap.size, 1, none⟩ = some (.slice pA a.people.length pC) := hB1.out.cell 1
   go_wp2_with fail
   refine hcf.out.mono ?_
   rintro e W2 ⟨rfl, hx2⟩
   have k1 : W2.cell? ⟨w.heap.size + 2, 1, none⟩ = some (.int .i64 r1) := ((Keep.of_ext (X := fun _ => False) hx2).blk hB3.out id).cell 1
   have k2 : W2.cell? ⟨w.heap.size + 3, 1, none⟩ = some (.int .i64 r2) := ((Keep.of_ext (X := fun _ => False) hx2).blk hB4.out id).cell 1
   have k3 : W2.cell? ⟨w.heap.size + 2, 2, none⟩ = some (.slice sA x.spans.length sC) := ((Keep.of_ext (X := fun _ => False) hx2).blk hB3.out id).cell 2
   have k4 : W2.cell? ⟨w.heap.size + 3, 2, none⟩ = some (.slice tA y.spans.length tC) := ((Keep.of_ext (X := fun _ => False) hx2).blk hB4.out id).cell 2
   have hE2 := hJ (hE.out.trans hx2)
   clear hx2 hcf hB1 hB2 hB3 hB4 hE c1
   go_wp2
   go_ret
   rw [R.out]
   exact ⟨rfl, hE2.out⟩
  ·have d1 : decide (r1 < 0) = false := decide_eq_false k0
   by_cases k9 : r1 = r2
   ·have d2 : (r1 != r2) = false := by simp [k9]
    have R : Hid (clashB a b x y = meetB x.spans y.spans) := by show _ = _; rw [hcl.out, decide_eq_true k9, decide_eq_true (show 0 ≤ r1 by omega)]; simp
    clear hcl k0 k9
    go_enter Tryz.func73, Tryz.ntmps73
    go_upto_region 1 with (fail)
    refine wp_abs (S := fun W => Hid (Ext w W) ∧ Hid (Blk W w.heap.size 64 #[.int .i64 a.meeting, .slice pA a.people.length pC, .slice oA a.opts.length oC]) ∧ Hid (Blk W (w.heap.size + 1) 64 #[.int .i64 b.meeting, .slice qA b.people.length qC, .slice oB b.opts.length oD]) ∧ Hid (Blk W (w.heap.size + 2) 77 #[.int .i64 h1, .int .i64 r1, .slice sA x.spans.length sC]) ∧ Hid (Blk W (w.heap.size + 3) 77 #[.int .i64 h2, .int .i64 r2, .slice tA y.spans.length tC])) ?_ ?_
    ·exact ⟨hJ (by exact (by with_reducible repeat' (first | exact Ext.refl _ | assumption | refine Ext.drewN ?_ _ | refine Ext.drew ?_ | refine Ext.alloc ?_ _ | refine Ext.trans ?_ (by with_reducible assumption)))), hJ (Blk.alloc (Blk.alloc (Blk.alloc (blk_new' rfl rfl) _) _) _), hJ (Blk.alloc (Blk.alloc (blk_new' (by simp) rfl) _) _), hJ (Blk.alloc (blk_new' (by simp) rfl) _), hJ (blk_new' (by simp) rfl)⟩
    rintro W1 ⟨hE, hB1, hB2, hB3, hB4⟩
    have hcf : Hid (Calls Tryz.prog 56 #[.slice pA a.people.length pC, .func (.func 97) #[] #[.pointer (some ⟨w.heap.size + 1, 0, none⟩)]] W1 fun e w' => e = .returned (.bool false) ∧ Ext W1 w') := by
     have := containsFunc_intC_calls (.slice pA a.people.length pC) (.pointer (some ⟨w.heap.size + 1, 0, none⟩)) a.people 97 (fun _ _ => by kernel_rfl) (hasI b.people) W1 (hP.out.ext hE.out) (fun s _ W' hW' => meet1_calls _ (w.heap.size + 1) s b.meeting (.slice qA b.people.length qC) (.slice oB b.opts.length oD) b.people W' (hQ.out.ext (hE.out.trans hW')) ((Keep.of_ext (X := fun _ => False) hW').blk hB2.out id) rfl)
     rw [shareI, hq.out] at this
     exact this
    have c1 : W1.cell? ⟨w.heap.size, 1, none⟩ = some (.slice pA a.people.length pC) := hB1.out.cell 1
    go_wp2_with fail
    refine hcf.out.mono ?_
    rintro e W2 ⟨rfl, hx2⟩
    have k1 : W2.cell? ⟨w.heap.size + 2, 1, none⟩ = some (.int .i64 r1) := ((Keep.of_ext (X := fun _ => False) hx2).blk hB3.out id).cell 1
    have k2 : W2.cell? ⟨w.heap.size + 3, 1, none⟩ = some (.int .i64 r2) := ((Keep.of_ext (X := fun _ => False) hx2).blk hB4.out id).cell 1
    have k3 : W2.cell? ⟨w.heap.size + 2, 2, none⟩ = some (.slice sA x.spans.length sC) := ((Keep.of_ext (X := fun _ => False) hx2).blk hB3.out id).cell 2
    have k4 : W2.cell? ⟨w.heap.size + 3, 2, none⟩ = some (.slice tA y.spans.length tC) := ((Keep.of_ext (X := fun _ => False) hx2).blk hB4.out id).cell 2
    have hE2 := hJ (hE.out.trans hx2)
    clear hx2 hcf hB1 hB2 hB3 hB4 hE c1
    go_wp2_with fail
    refine (hm.out _ hE2.out).mono ?_
    rintro e W3 ⟨v, rfl, hv, hx3⟩
    obtain ⟨mA, mC, rfl⟩ := hv.read.form
    obtain ⟨n, hn⟩ : ∃ n, Hid ((combL 1 x.spans y.spans).length = n) := ⟨_, rfl⟩
    rw [hn.out]
    have R2 : Hid (clashB a b x y = decide (0 < n)) := by show _ = _; rw [R.out, ← hmeet.out, hn.out]
    have hE3 := hJ (hE2.out.trans hx3)
    clear hv hx3 hE2 R hn hmeet k1 k2 k3 k4
    by_cases hn0 : 0 < n
    ·have d9 : decide (0 < (n : Int)) = true := decide_eq_true (by omega)
     have R3 : Hid (clashB a b x y = true) := by show _ = _; rw [R2.out, decide_eq_true hn0]
     go_wp2
     go_ret
     rw [R3.out]
     exact ⟨rfl, hE3.out⟩
    ·have d9 : decide (0 < (n : Int)) = false := decide_eq_false (by omega)
     have R3 : Hid (clashB a b x y = false) := by show _ = _; rw [R2.out, decide_eq_false hn0]
     go_wp2
     go_ret
     rw [R3.out]
     exact ⟨rfl, hE3.out⟩
   ·have d2 : (r1 != r2) = true := by simp [k9]
    have hd : (decide (r1 = r2) && decide (0 ≤ r1) || false) = false := by rw [decide_eq_false k9]; simp
    clear k0 k9
    have R : Hid (clashB a b x y = false) := by show _ = _; rw [hcl.out, hd]; rfl
    clear hcl hd
    go_enter Tryz.func73, Tryz.ntmps73
    go_upto_region 1 with (fail)
    refine wp_abs (S := fun W => Hid (Ext w W) ∧ Hid (Blk W w.heap.size 64 #[.int .i64 a.meeting, .slice pA a.people.length pC, .slice oA a.opts.length oC]) ∧ Hid (Blk W (w.heap.size + 1) 64 #[.int .i64 b.meeting, .slice qA b.people.length qC, .slice oB b.opts.length oD]) ∧ Hid (Blk W (w.heap.size + 2) 77 #[.int .i64 h1, .int .i64 r1, .slice sA x.spans.length sC]) ∧ Hid (Blk W (w.heap.size + 3) 77 #[.int .i64 h2, .int .i64 r2, .slice tA y.spans.length tC])) ?_ ?_
    ·exact ⟨hJ (by exact (by with_reducible repeat' (first | exact Ext.refl _ | assumption | refine Ext.drewN ?_ _ | refine Ext.drew ?_ | refine Ext.alloc ?_ _ | refine Ext.trans ?_ (by with_reducible assumption)))), hJ (Blk.alloc (Blk.alloc (Blk.alloc (blk_new' rfl rfl) _) _) _), hJ (Blk.alloc (Blk.alloc (blk_new' (by simp) rfl) _) _), hJ (Blk.alloc (blk_new' (by simp) rfl) _), hJ (blk_new' (by simp) rfl)⟩
    rintro W1 ⟨hE, hB1, hB2, hB3, hB4⟩
    have hcf : Hid (Calls Tryz.prog 56 #[.slice pA a.people.length pC, .func (.func 97) #[] #[.pointer (some ⟨w.heap.size + 1, 0, none⟩)]] W1 fun e w' => e = .returned (.bool false) ∧ Ext W1 w') := by
     have := containsFunc_intC_calls (.slice pA a.people.length pC) (.pointer (some ⟨w.heap.size + 1, 0, none⟩)) a.people 97 (fun _ _ => by kernel_rfl) (hasI b.people) W1 (hP.out.ext hE.out) (fun s _ W' hW' => meet1_calls _ (w.heap.size + 1) s b.meeting (.slice qA b.people.length qC) (.slice oB b.opts.length oD) b.people W' (hQ.out.ext (hE.out.trans hW')) ((Keep.of_ext (X := fun _ => False) hW').blk hB2.out id) rfl)
     rw [shareI, hq.out] at this
     exact this
    have c1 : W1.cell? ⟨w.heap.size, 1, none⟩ = some (.slice pA a.people.length pC) := hB1.out.cell 1
    go_wp2_with fail
    refine hcf.out.mono ?_
    rintro e W2 ⟨rfl, hx2⟩
    have k1 : W2.cell? ⟨w.heap.size + 2, 1, none⟩ = some (.int .i64 r1) := ((Keep.of_ext (X := fun _ => False) hx2).blk hB3.out id).cell 1
    have k2 : W2.cell? ⟨w.heap.size + 3, 1, none⟩ = some (.int .i64 r2) := ((Keep.of_ext (X := fun _ => False) hx2).blk hB4.out id).cell 1
    have k3 : W2.cell? ⟨w.heap.size + 2, 2, none⟩ = some (.slice sA x.spans.length sC) := ((Keep.of_ext (X := fun _ => False) hx2).blk hB3.out id).cell 2
    have k4 : W2.cell? ⟨w.heap.size + 3, 2, none⟩ = some (.slice tA y.spans.length tC) := ((Keep.of_ext (X := fun _ => False) hx2).blk hB4.out id).cell 2
    have hE2 := hJ (hE.out.trans hx2)
    clear hx2 hcf hB1 hB2 hB3 hB4 hE c1
    go_wp2
    go_ret
    rw [R.out]
    exact ⟨rfl, hE2.out⟩
def SpansIn (t : List WishD) : Prop := ∀ x ∈ t, ∀ o ∈ x.opts, SpOk o.spans
theorem clash_core_calls (wv pv : Value) (t : List WishD) (pick : List Int) (d : Nat) (w : World) (h : Wishes w wv t) (hp : Ints w pv pick) (ht : SpansIn t)
  (hd : ∀ j, j ≤ d → (optOf t pick j).isSome) :
  Calls Tryz.prog 47 #[.agg #[wv], pv, .int .i64 d] w fun e w' => e = .returned (.int .i64 (earlierI t pick d)) ∧ Ext w w' := by
 have hdd := hJ hd
 obtain ⟨ta, tc, rfl, hn, hc, hat⟩ := h.open
 obtain ⟨pa, pc, rfl, hpn, hpc, hpat⟩ := hp.open
 have hat' := hJ hat
 have hpat' := hJ hpat
 clear h hp hd hat hpat
 obtain ⟨⟨y, p⟩, hy⟩ := Option.isSome_iff_exists.1 (hdd.out d (Nat.le_refl _))
 obtain ⟨m, hy1, hy2, hy3⟩ := optOf_spec hy
 have hyy := hJ hy
 have hm1 := hJ hy2
 have hm2 := hJ hy3
 have hm3 := hJ hy1
 have lt : d < t.length := (List.getElem?_eq_some_iff.1 hy1).1
 have lp : d < pick.length := (List.getElem?_eq_some_iff.1 hy2).1
 clear hy hy1 hy2 hy3
 dsimp only at hm2 hm3
 obtain ⟨b0, o0, y', ya, yc, oa0, oc0, rfl, hb0, _, ey, g1', g2', g3', gp0, go0⟩ := hat'.out d lt w (Ext.refl _)
 obtain rfl : y = y' := Option.some.inj (hm3.out.symm.trans ey.out)
 have hgp := hJ gp0
 have hgo := hJ go0
 clear gp0 go0 ey
 go_enter Tryz.func47, Tryz.ntmps47
 go_upto_region 3 with (fail)
 refine wp_abs (S := fun W => Hid (Ext w W) ∧ Hid (Blk W (w.heap.size + 1) 64 #[.int .i64 y.meeting, .slice ya y.people.length yc, .slice oa0 y.opts.length oc0])) ⟨hJ (by exact (by with_reducible repeat' (first | exact Ext.refl _ | assumption | refine Ext.drewN ?_ _ | refine Ext.drew ?_ | refine Ext.alloc ?_ _ | refine Ext.trans ?_ (by with_reducible assumption)))), hJ (blk_new' (by simp) rfl)⟩ ?_
 clear g1' g2' g3'
 rintro W1 ⟨hE1, hB1⟩
 obtain ⟨oa1, oc1, e1, hol, hoc, hoat⟩ := hgo.out.open
 cases e1
 have hoat' := hJ hoat
 have hml : m < y.opts.length := (List.getElem?_eq_some_iff.1 hm2.out).1
 have hsp2 := ht y (List.mem_of_getElem? hm3.out) p (List.mem_of_getElem? hm2.out)
 have hdr := hJ ht
 clear hoat ht
 go_loopw [20] (fun vi wr => ∃ i : Nat, i ≤ d ∧ vi = .int .i64 i ∧ Hid (Ext W1 wr) ∧ Hid (FindAt (fun i => clashAt t pick i d) (List.range d) i)) (fun vi _ => d - (intOf vi).toNat)
 case atStart => exact ⟨0, by omega, rfl, hJ (Ext.refl _), FindAt.zero _ _⟩
 case round =>
  obtain ⟨i, hi, rfl, hx, hF⟩ := hrel
  have hxw := hJ (hE1.out.trans hx.out)
  by_cases h1 : i < d
  ·obtain ⟨⟨x, o⟩, hox⟩ := Option.isSome_iff_exists.1 (hdd.out i (by omega))
   obtain ⟨n, hx1', hx2', hx3'⟩ := optOf_spec hox
   dsimp only at hx1' hx3'
   obtain ⟨b1, o1, x', xa, xc, oa, oc, e2, hb1, _, ex, g1, g2, g3, gp, go⟩ := hat'.out i (by omega) wr hxw.out
   cases e2
   obtain rfl : x = x' := Option.some.inj (hx1'.symm.trans ex.out)
   obtain ⟨b2, o2, k, rfl, hb2, _, ek, k1⟩ := hpat'.out i (by omega) wr hxw.out
   obtain ⟨b2', o2', k', e3, hb2', _, ek', k2⟩ := hpat'.out d lp wr hxw.out
   cases e3
   obtain rfl : (n : Int) = k := Option.some.inj (hx2'.symm.trans ek.out)
   obtain rfl : (m : Int) = k' := Option.some.inj (hm1.out.symm.trans ek'.out)
   obtain ⟨oa2, oc2, e4, hol2, hoc2, hoat2⟩ := go.open
   cases e4
   have hnl : n < x.opts.length := (List.getElem?_eq_some_iff.1 hx3').1
   obtain ⟨b3, o3, q, sa, sc, rfl, hb3, _, eq3, q1, q2, q3, qs⟩ := hoat2 n hnl wr (Ext.refl _)
   obtain rfl : o = q := Option.some.inj (hx3'.symm.trans eq3.out)
   obtain ⟨b4, o4, r, ra, rc, rfl, hb4, _, eq4, r1, r2, r3, rs⟩ := hoat'.out m hml wr hxw.out
   obtain rfl : p = r := Option.some.inj (hm2.out.symm.trans eq4.out)
   have hsp1 := hdr.out x (List.mem_of_getElem? ex.out) o (List.mem_of_getElem? hx3')
   have hcl : Hid (∀ W, Ext wr W → Calls Tryz.prog 73 #[.agg #[.int .i64 x.meeting, .slice xa x.people.length xc, .slice (some ⟨b3, o3, none⟩) x.opts.length oc], .agg #[.int .i64 y.meeting, .slice ya y.people.length yc, .slice (some ⟨b4, o4, none⟩) y.opts.length oc0], .agg #[.int .i64 o.harm, .int .i64 o.room, .slice sa o.spans.length sc], .agg #[.int .i64 p.harm, .int .i64 p.room, .slice ra p.spans.length rc]] W
     fun e w' => e = .returned (.bool (clashB x y o p)) ∧ Ext W w') := fun W hW =>
    meet_core_calls _ _ _ _ x y o p W ⟨_, _, rfl, gp.ext hW, go.ext hW⟩ ⟨_, _, rfl, hgp.out.ext (hxw.out.trans hW), hgo.out.ext (hxw.out.trans hW)⟩ ⟨_, rfl, qs.ext hW⟩ ⟨_, rfl, rs.ext hW⟩ hsp1 hsp2
   have hc : clashAt t pick i d = clashB x y o p := by simp only [clashAt, hox, hyy.out]
   have hr : (List.range d)[i]? = some i := by simp [h1]
   have y1 : wr.cell? ⟨w.heap.size + 1, 0, none⟩ = some (.int .i64 y.meeting) := ((Keep.of_ext (X := fun _ => False) hx.out).blk hB1.out id).cell 0
   have y2 : wr.cell? ⟨w.heap.size + 1, 1, none⟩ = some (.slice ya y.people.length yc) := ((Keep.of_ext (X := fun _ => False) hx.out).blk hB1.out id).cell 1
   have y3 : wr.cell? ⟨w.heap.size + 1, 2, none⟩ = some (.slice (some ⟨b4, o4, none⟩) y.opts.length oc0) := ((Keep.of_ext (X := fun _ => False) hx.out).blk hB1.out id).cell 2
   obtain ⟨q, hq⟩ : ∃ q, Hid (clashB x y o p = q) := ⟨_, rfl⟩
   rw [hq.out] at hcl hc
   have hqF : Hid (clashAt t pick i d = q) := hJ hc
   have hrr := hJ hr
   clear gp go qs rs hx1' hx2' hx3' hox hc hr ex ek ek' eq3 eq4 hsp1 hoat2 hq
   go_upto_region 5 with (fail)
   obtain ⟨B, hBB⟩ : ∃ B, Hid (wr.heap.size = B) := ⟨_, rfl⟩
   refine wp_abs (S := fun W => Hid (Ext wr W) ∧ Hid (Blk W B 64 #[.int .i64 x.meeting, .slice xa x.people.length xc, .slice (some ⟨b3, o3, none⟩) x.opts.length oc])) ⟨hJ (by exact (by with_reducible repeat' (first | exact Ext.refl _ | assumption | refine Ext.drewN ?_ _ | refine Ext.drew ?_ | refine Ext.alloc ?_ _ | refine Ext.trans ?_ (by with_reducible assumption)))), hJ (blk_new' hBB.out.symm rfl)⟩ ?_
   rw [hBB.out]
   rintro W2 ⟨hx2, hB2⟩
   have z1 := After.cell (show W2.cell? ⟨B, 0, none⟩ = some (.int .i64 x.meeting) from hB2.out.cell 0)
   have z2 := After.cell (show W2.cell? ⟨B, 1, none⟩ = some (.slice xa x.people.length xc) from hB2.out.cell 1)
   have z3 := After.cell (show W2.cell? ⟨B, 2, none⟩ = some (.slice (some ⟨b3, o3, none⟩) x.opts.length oc) from hB2.out.cell 2)
   have z4 := After.cell (hx2.out.cell y1)
   have z5 := After.cell (hx2.out.cell y2)
   have z6 := After.cell (hx2.out.cell y3)
   have z7 := After.cell (hx2.out.cell k1)
   have z8 := After.cell (hx2.out.cell k2)
   have p1 := After.cell (hx2.out.cell q1)
   have p2 := After.cell (hx2.out.cell q2)
   have p3 := After.cell (hx2.out.cell q3)
   have p4 := After.cell (hx2.out.cell r1)
   have p5 := After.cell (hx2.out.cell r2)
   have p6 := After.cell (hx2.out.cell r3)
   clear g1 g2 g3 k1 k2 q1 q2 q3 r1 r2 r3 y1 y2 y3 hb1 hb2 hb2' hb3 hb4 hBB hB2
   refine wp_region_after (by kernel_rfl) (by kernel_rfl) ?_
   repeat (go_big_quiet_step (exact After.call _ (hcl.out _ (hx2.out.trans (After.ext _)))))
   refine wpQuiet_nil ?_
   rintro _ ⟨z, rfl⟩
   have hx3 := hJ (hx.out.trans (hx2.out.trans z.ext))
   generalize z.world = W3 at hx3 ⊢
   clear z1 z2 z3 z4 z5 z6 z7 z8 p1 p2 p3 p4 p5 p6 z hx2 hcl hx hxw
   cases q with
   | true =>
    have R := hJ (hF.out.hit hrr.out hqF.out)
    clear hqF hrr hF
    go_wp2
    go_ret
    unfold earlierI
    rw [R.out]
    exact ⟨rfl, hE1.out.trans hx3.out⟩
   | false =>
    have R := hJ (hF.out.miss hrr.out hqF.out)
    clear hqF hrr hF
    go_wp2
    go_roundw
    case rel => exact ⟨i + 1, by omega, by go_num, hx3, R⟩
    case measure => simp [intOf]; omega
  ·have R : Hid (earlierI t pick d = -1) := hF.out.none (by simp; omega)
   clear hF
   go_wp2
   go_ret
   rw [R.out]
   exact ⟨rfl, hxw.out⟩
def selB (n : Nat) : Int → List Int → Bool
 | _, [] => true
 | last, i :: r => decide (last < i) && decide (i < n) && selB n i r
def checkI (t : List WishD) (l : List Int) : Int := if validT t = 0 then (if selB t.length (-1) l then 0 else 1) else validT t
theorem selB_drop {n : Nat} {l : List Int} {i : Nat} {x last : Int} (h : l[i]? = some x) : selB n last (l.drop i) = (decide (last < x) && decide (x < n) && selB n x (l.drop (i + 1))) := by
 obtain ⟨hi, rfl⟩ := List.getElem?_eq_some_iff.1 h
 rw [List.drop_eq_getElem_cons hi]
 rfl
theorem check_core_calls (wv lv : Value) (t : List WishD) (l : List Int) (w : World) (h : Wishes w wv t) (hl : Ints w lv l) :
  Calls Tryz.prog 44 #[.agg #[wv], lv] w fun e w' => e = .returned (.int .i64 (checkI t l)) ∧ Ext w w' := by
 have hT := hJ h
 obtain ⟨ta, tc, rfl, htn, htc, _⟩ := h.open
 obtain ⟨la, lc, rfl, hn, hc, hat⟩ := hl.open
 have hat' := hJ hat
 clear h hl hat
 have hval : ∀ z, validT t = z → Hid (∀ W, Ext w W → Calls Tryz.prog 24 #[.agg #[.slice ta t.length tc]] W fun e w' => e = .returned (.int .i64 z) ∧ Ext W w') :=
  fun z hz => hJ fun W hW => hz ▸ valid_calls _ t W (hT.out.ext hW)
 obtain ⟨z, hz⟩ : ∃ z, validT t = z := ⟨_, rfl⟩
 have hv := hval z hz
 by_cases h0 : z = 0
 ·subst h0
  have hR : Hid (checkI t l = if selB t.length (-1) l then 0 else 1) := by show _ = _; unfold checkI; rw [if_pos hz]
  clear hval hz
  go_enter Tryz.func44, Tryz.ntmps44
  go_wp2_with fail
  refine (hv.out _ (by with_reducible repeat' (first | exact Ext.refl _ | assumption | refine Ext.drewN ?_ _ | refine Ext.drew ?_ | refine Ext.alloc ?_ _ | refine Ext.trans ?_ (by with_reducible assumption)))).mono ?_
  rintro e w1 ⟨rfl, hx1⟩
  have hB1 : Hid (Blk w1 w.heap.size 28 #[.slice ta t.length tc]) := hJ ((Keep.of_ext (X := fun _ => False) hx1).blk (blk_new' rfl rfl) id)
  have hE1 := hJ (((Ext.refl w).alloc (.cells #[.slice ta t.length tc] 28)).trans hx1)
  clear hx1 hv
  go_wp2_with fail
  go_loopw [6, 16] (fun v6 vi wr => ∃ (i : Nat) (last : Int), i ≤ l.length ∧ v6 = .int .i64 last ∧ vi = .int .i64 i ∧ Hid (selB t.length (-1) l = selB t.length last (l.drop i)) ∧ Hid (Ext w wr) ∧ Hid (Blk wr w.heap.size 28 #[.slice ta t.length tc])) (fun _ vi _ => l.length - (intOf vi).toNat)
  case atStart => exact ⟨0, -1, by omega, rfl, rfl, rfl, hE1, hB1⟩
  case round =>
   clear hE1 hB1
   obtain ⟨i, last, hi, rfl, rfl, hs, hE, hB⟩ := hrel
   by_cases h1 : i < l.length
   ·obtain ⟨b1, o1, x, rfl, hb1, _, ex, g1⟩ := hat'.out i h1 wr hE.out
    have hst := hJ (hs.out.trans (selB_drop ex.out))
    have c0 : wr.cell? ⟨w.heap.size, 0, none⟩ = some (.slice ta t.length tc) := hB.out.cell 0
    have cl := hB.out.lt
    by_cases k1 : x ≤ last
    ·have d1 : decide (x ≤ last) = true := decide_eq_true k1
     have R : Hid (checkI t l = 1) := by show _ = _; rw [hR.out, hst.out, decide_eq_false (show ¬ last < x by omega)]; rfl
     clear hst hs hR k1 ex
     go_wp2
     go_ret
     rw [R.out]
     exact ⟨rfl, hE.out⟩
    ·have d1 : decide (x ≤ last) = false := decide_eq_false k1
     by_cases k2 : (t.length : Int) ≤ x
     ·have d2 : decide ((t.length : Int) ≤ x) = true := decide_eq_true k2
      have R : Hid (checkI t l = 1) := by show _ = _; rw [hR.out, hst.out, decide_eq_false (show ¬ x < (t.length : Int) by omega), Bool.and_false]; rfl
      clear hst hs hR k1 k2 ex
      go_wp2
      go_ret
      rw [R.out]
      exact ⟨rfl, hE.out⟩
     ·have d2 : decide ((t.length : Int) ≤ x) = false := decide_eq_false k2
      have R : Hid (selB t.length (-1) l = selB t.length x (l.drop (i + 1))) := by show _ = _; rw [hst.out, decide_eq_true (show last < x by omega), decide_eq_true (show x < (t.length : Int) by omega)]; rfl
      clear hst hs k1 k2 ex
      go_wp2
      go_roundw
      case rel => first | exact ⟨i + 1, x, h1, rfl, by go_num, R, hE, hB⟩ | ((repeat apply Exists.intro); exact ⟨⟨i + 1, x, h1, rfl, by go_num, R, hE, hB⟩, rfl⟩)
      case measure => simp [intOf]; omega
   ·have R : Hid (checkI t l = 0) := by
     show _ = _
     have := hs.out
     rw [List.drop_eq_nil_of_le (by omega)] at this
     rw [hR.out, this]
     rfl
    clear hs hR
    go_wp2
    go_ret
    rw [R.out]
    exact ⟨rfl, hE.out⟩
 ·have d0 : (z != 0) = true := by simp [h0]
  have R : Hid (checkI t l = z) := by show _ = _; unfold checkI; rw [if_neg (by rw [hz]; exact h0), hz]
  clear hval hz h0
  go_enter Tryz.func44, Tryz.ntmps44
  go_wp2_with fail
  refine (hv.out _ (by with_reducible repeat' (first | exact Ext.refl _ | assumption | refine Ext.drewN ?_ _ | refine Ext.drew ?_ | refine Ext.alloc ?_ _ | refine Ext.trans ?_ (by with_reducible assumption)))).mono ?_
  rintro e w1 ⟨rfl, hx1⟩
  have hB1 : Hid (Blk w1 w.heap.size 28 #[.slice ta t.length tc]) := hJ ((Keep.of_ext (X := fun _ => False) hx1).blk (blk_new' rfl rfl) id)
  have hE1 := hJ (((Ext.refl w).alloc (.cells #[.slice ta t.length tc] 28)).trans hx1)
  clear hx1 hv
  go_wp2
  go_ret
  rw [R.out]
  exact ⟨rfl, hE1.out⟩
def standO (f : Int → Nat → Bool × Nat) : List OptD → Int → Nat → Bool × Nat
 | [], _, v => (false, v)
 | _ :: r, i, v => if 65536 < v + 1 then (false, v + 1) else if (f i (v + 1)).1 then (true, (f i (v + 1)).2) else standO f r (i + 1) (f i (v + 1)).2
def standF (t : List WishD) : List WishD → List Int → Nat → Bool × Nat
 | [], _, v => (true, v)
 | x :: r, pre, v => standO (fun i v => if 0 ≤ lastClash t (pre ++ [i]) then (false, v) else standF t r (pre ++ [i]) v) x.opts 0 v
def standG (t : List WishD) (r : List WishD) (pre : List Int) (i : Int) (v : Nat) : Bool × Nat := if 0 ≤ lastClash t (pre ++ [i]) then (false, v) else standF t r (pre ++ [i]) v
theorem standF_cons (t : List WishD) (x : WishD) (r : List WishD) (pre : List Int) (v : Nat) : standF t (x :: r) pre v = standO (standG t r pre) x.opts 0 v := rfl
theorem standO_bd {f : Int → Nat → Bool × Nat} {k : Nat} (hf : ∀ i v, v ≤ 65536 → (f i v).2 ≤ 65536 + k) : ∀ (l : List OptD) (i : Int) (v : Nat), v ≤ 65536 + k → (standO f l i v).2 ≤ 65536 + k + 1
 | [], _, v, h => by simp only [standO]; omega
 | _ :: r, i, v, h => by
  simp only [standO]
  split
  ·show v + 1 ≤ _; omega
  ·split
   ·have := hf i (v + 1) (by omega); show (f i (v + 1)).2 ≤ _; omega
   ·exact standO_bd hf r (i + 1) _ (hf i (v + 1) (by omega))
theorem standF_bd (t : List WishD) : ∀ (r : List WishD) (pre : List Int) (v : Nat), v ≤ 65536 → (standF t r pre v).2 ≤ 65536 + r.length
 | [], _, v, h => by simp only [standF]; simpa using h
 | x :: r, pre, v, h => by
  rw [standF_cons]
  have := standO_bd (f := standG t r pre) (k := r.length) (fun i v hv => by
   unfold standG
   split
   ·show v ≤ _; omega
   ·exact standF_bd t r _ v hv) x.opts 0 v (by omega)
  simp only [List.length_cons]
  omega
def subT (t : List WishD) (l : List Int) : List WishD := l.map fun i => t[i.toNat]?.getD default
def standsS (s : List WishD) : Bool × Int := if 65536 < (standF s s [] 0).2 then (false, 2) else ((standF s s [] 0).1, 0)
def standsT (t : List WishD) (l : List Int) : Bool × Int := standsS (subT t l)
structure StF (w0 w : World) (Lb Sb Vb Pb Fb Pk : Nat) (la : Option Addr) (lc : Nat) (sa : Option Addr) (sc : Nat) (t : List WishD) (v : Nat) (pick : List Int) : Prop where
 ext : Ext w0 w
 lbox : Blk w Lb 31 #[.slice la t.length lc]
 sbox : Blk w Sb 28 #[.slice sa t.length sc]
 vbox : Blk w Vb 3 #[.int .i64 (v : Int)]
 pbox : Blk w Pb 31 #[.slice (some ⟨Pk, 0, none⟩) t.length t.length]
 fbox : Blk w Fb 99 #[.func (.func 72) #[] #[.pointer (some ⟨Lb, 0, none⟩), .pointer (some ⟨Sb, 0, none⟩), .pointer (some ⟨Vb, 0, none⟩), .pointer (some ⟨Pb, 0, none⟩), .pointer (some ⟨Fb, 0, none⟩)]]
 row : Blk w Pk 3 (pick.map (Value.int .i64)).toArray
 plen : pick.length = t.length
 vp : Vb ≠ Pk
 v0 : w0.heap.size ≤ Vb
 p0 : w0.heap.size ≤ Pk
section
variable {w0 w : World} {Lb Sb Vb Pb Fb Pk : Nat} {la sa : Option Addr} {lc sc : Nat} {t : List WishD} {v : Nat} {pick : List Int}
theorem StF.toExt {w' : World} (h : StF w0 w Lb Sb Vb Pb Fb Pk la lc sa sc t v pick) (e : Ext w w') : StF w0 w' Lb Sb Vb Pb Fb Pk la lc sa sc t v pick :=
 have k := Keep.of_ext (X := fun _ => False) e
 ⟨h.ext.trans e, k.blk h.lbox id, k.blk h.sbox id, k.blk h.vbox id, k.blk h.pbox id, k.blk h.fbox id, k.blk h.row id, h.plen, h.vp, h.v0, h.p0⟩
theorem StF.setV (h : StF w0 w Lb Sb Vb Pb Fb Pk la lc sa sc t v pick) (v' : Nat) : StF w0 (w.setCell ⟨Vb, 0, none⟩ (.int .i64 (v' : Int))) Lb Sb Vb Pb Fb Pk la lc sa sc t v' pick :=
 ⟨h.ext.setCell h.v0 _, h.lbox.far (h.lbox.ne_ h.vbox (by decide)) _, h.sbox.far (h.sbox.ne_ h.vbox (by decide)) _, h.vbox.set_ 0 _, h.pbox.far (h.pbox.ne_ h.vbox (by decide)) _, h.fbox.far (h.fbox.ne_ h.vbox (by decide)) _, h.row.far h.vp.symm _, h.plen, h.vp, h.v0, h.p0⟩
theorem StF.setP (h : StF w0 w Lb Sb Vb Pb Fb Pk la lc sa sc t v pick) (d : Nat) (i : Int) : StF w0 (w.setCell ⟨Pk, d, none⟩ (.int .i64 i)) Lb Sb Vb Pb Fb Pk la lc sa sc t v (pick.set d i) :=
 ⟨h.ext.setCell h.p0 _, h.lbox.far (h.lbox.ne_ h.row (by decide)) _, h.sbox.far (h.sbox.ne_ h.row (by decide)) _, h.vbox.far h.vp _, h.pbox.far (h.pbox.ne_ h.row (by decide)) _, h.fbox.far (h.fbox.ne_ h.row (by decide)) _,
  by have := h.row.set_ d (.int .i64 i); simpa [List.map_set] using this, by rw [List.length_set]; exact h.plen, h.vp, h.v0, h.p0⟩
theorem StF.ints (h : StF w0 w Lb Sb Vb Pb Fb Pk la lc sa sc t v pick) (hl : t.length ≤ 512) : Ints w (.slice (some ⟨Pk, 0, none⟩) t.length t.length) pick := by
 rw [← h.plen]
 exact ints_of_blk h.row (Nat.le_refl _) (by rw [h.plen]; unfold maxLen; omega)
end
theorem pre_set {pick pre : List Int} {i : Int} (h : pick.take pre.length = pre) (hl : pre.length < pick.length) : (pick.set pre.length i).take (pre.length + 1) = pre ++ [i] := by
 rw [List.take_add_one, List.take_set_of_le (Nat.le_refl _), h, List.getElem?_set_self hl]
 rfl
theorem take_le {pick pre : List Int} {i : Int} (h : pick.take (pre.length + 1) = pre ++ [i]) : pick.take pre.length = pre := by
 have := congrArg (List.take pre.length) h
 rwa [List.take_take, Nat.min_eq_left (Nat.le_succ _), List.take_append_of_le_length (Nat.le_refl _), List.take_length] at this
theorem optOf_snoc {t : List WishD} {pre : List Int} {x : WishD} {i : Nat} (hx : t[pre.length]? = some x) (hi : i < x.opts.length) (h : ∀ j, j < pre.length → (optOf t pre j).isSome) : ∀ j, j < (pre ++ [(i : Int)]).length → (optOf t (pre ++ [(i : Int)]) j).isSome := fun j hj => by
 rw [List.length_append, List.length_singleton] at hj
 by_cases hj2 : j < pre.length
 ·have := h j hj2
  have e := optOf_take (t := t) (pick := pre ++ [(i : Int)]) (d := pre.length) hj2
  rw [List.take_append_of_le_length (Nat.le_refl _), List.take_length] at e
  rwa [← e]
 ·obtain rfl : j = pre.length := by omega
  simp [optOf, hx, hi]
theorem lastClash_snoc {t : List WishD} {pre pick : List Int} {i : Int} (h : pick.take (pre.length + 1) = pre ++ [i]) : lastClash t (pre ++ [i]) = earlierI t pick pre.length := by
 unfold lastClash
 rw [if_neg (by simp), ← h, List.length_take]
 have hl : pre.length < pick.length := by
  have := congrArg List.length h
  simp at this
  omega
 rw [show min (pre.length + 1) pick.length - 1 = pre.length by omega]
 exact earlierI_take (by omega)
theorem drop_tail {α : Type} {l r : List α} {x : α} {n : Nat} (h : l.drop n = x :: r) : l[n]? = some x ∧ l.drop (n + 1) = r ∧ n < l.length := by
 have hn : n < l.length := by
  apply Classical.byContradiction
  intro hh
  rw [List.drop_eq_nil_of_le (by omega)] at h
  cases h
 rw [List.drop_eq_getElem_cons hn] at h
 cases h
 exact ⟨List.getElem?_eq_getElem hn, rfl, hn⟩
theorem from_calls (w0 : World) (Lb Sb Vb Pb Fb Pk : Nat) (la sa : Option Addr) (lc sc : Nat) (t : List WishD) (hw : Wishes w0 (.slice sa t.length sc) t) (hsp : SpansIn t) (hl : t.length ≤ 512) :
  ∀ (r : List WishD) (w : World) (v : Nat) (pick pre : List Int), StF w0 w Lb Sb Vb Pb Fb Pk la lc sa sc t v pick → pick.take pre.length = pre → t.drop pre.length = r → pre.length ≤ t.length → (∀ j, j < pre.length → (optOf t pre j).isSome) → v ≤ 65536 →
  Calls Tryz.prog 72 #[.int .i64 pre.length, .pointer (some ⟨Lb, 0, none⟩), .pointer (some ⟨Sb, 0, none⟩), .pointer (some ⟨Vb, 0, none⟩), .pointer (some ⟨Pb, 0, none⟩), .pointer (some ⟨Fb, 0, none⟩)] w fun e w' =>
   ∃ pick', e = .returned (.bool (standF t r pre v).1) ∧ StF w0 w' Lb Sb Vb Pb Fb Pk la lc sa sc t (standF t r pre v).2 pick' ∧ pick'.take pre.length = pre := by
 intro r
 induction r with
 | nil =>
  intro w v pick pre hS htk hdr hle _ hv
  have hlen : pre.length = t.length := by
   have := congrArg List.length hdr
   simp at this
   omega
  have c1 : w.cell? ⟨Lb, 0, none⟩ = some (.slice la t.length lc) := hS.lbox.cell 0
  have d1 : ((pre.length : Int) == (t.length : Int)) = true := by simp [hlen]
  have hS' := hJ hS
  have htk' := hJ htk
  have b1 := hS.lbox.lt
  clear hS htk hlen hdr
  go_enter Tryz.func72, Tryz.ntmps72
  go_wp2
  go_ret
  exact ⟨pick, rfl, hS'.out, htk'.out⟩
 | cons x r ih =>
  intro w v pick pre hS htk hdr hle hop hv
  obtain ⟨hx, hdr2, hlt⟩ := drop_tail hdr
  have hrl : r.length ≤ 512 := by
   have := congrArg List.length hdr2
   simp at this
   omega
  obtain ⟨sa', sc', e1, hn, hc, hat⟩ := hw.open
  cases e1
  have hat' := hJ hat
  obtain ⟨b1, o1, x', xa, xc, oa, oc, rfl, hb1, _, ex, g1, g2, g3, gp, go⟩ := hat'.out pre.length hlt w hS.ext
  obtain rfl : x = x' := Option.some.inj (hx.symm.trans ex.out)
  have c1 : w.cell? ⟨Lb, 0, none⟩ = some (.slice la t.length lc) := hS.lbox.cell 0
  have c2 : w.cell? ⟨Sb, 0, none⟩ = some (.slice (some ⟨b1, o1, none⟩) t.length sc) := hS.sbox.cell 0
  have l1 := hS.lbox.lt
  have l2 := hS.sbox.lt
  have d1 : ((pre.length : Int) == (t.length : Int)) = false := by simp; omega
  obtain ⟨res, hres⟩ : ∃ res, Hid (standF t (x :: r) pre v = res) := ⟨_, rfl⟩
  have hS' := hJ hS
  have htk' := hJ htk
  have hdr' := hJ hdr2
  have hop' := hJ hop
  have hx' := hJ hx
  have ih' := hJ ih
  have hw' := hJ hw
  have hol := go.len
  clear hS htk hdr hdr2 hop hx ih gp go ex hat hat' hw
  rw [hres.out]
  go_enter Tryz.func72, Tryz.ntmps72
  go_wp2_with fail
  clear c1 c2 l1 l2 g1 g2 g3 hb1
  have hg : ∀ (y : Array Value) (W : World), (callFunc 72 y).run Tryz.prog W = .ok (.enter 72 y) W := fun _ _ => by kernel_rfl
  go_loopw [20] (fun vi wr => ∃ (i v' : Nat) (pick' : List Int), i ≤ x.opts.length ∧ vi = .int .i64 i ∧ v' ≤ 65536 + r.length ∧ Hid (res = standO (standG t r pre) (x.opts.drop i) i v') ∧ Hid (StF w0 wr Lb Sb Vb Pb Fb Pk la lc (some ⟨b1, o1, none⟩) sc t v' pick') ∧ Hid (pick'.take pre.length = pre)) (fun vi _ => x.opts.length - (intOf vi).toNat)
  case atStart => exact ⟨0, v, pick, by omega, rfl, by omega, hJ (by rw [← hres.out]; rfl), hS', htk'⟩
  case round =>
   clear hS' htk' hres
   obtain ⟨i, v', pick', hi, rfl, hv', hR, hS, htk⟩ := hrel
   by_cases h1 : i < x.opts.length
   ·obtain ⟨o, ho⟩ : ∃ o, x.opts.drop i = o :: x.opts.drop (i + 1) := ⟨_, List.drop_eq_getElem_cons h1⟩
    have hR2 : Hid (res = if 65536 < v' + 1 then (false, v' + 1) else if (standG t r pre i (v' + 1)).1 then (true, (standG t r pre i (v' + 1)).2) else standO (standG t r pre) (x.opts.drop (i + 1)) ((i : Int) + 1) (standG t r pre i (v' + 1)).2) := by
     show _ = _
     rw [hR.out, ho]
     rfl
    have c3 : wr.cell? ⟨Vb, 0, none⟩ = some (.int .i64 (v' : Int)) := hS.out.vbox.cell 0
    have l3 := hS.out.vbox.lt
    have f3 := hS.out.vbox.frozen 0
    clear hR ho
    by_cases k1 : 65536 < v' + 1
    ·have d2 : decide (65536 < (v' : Int) + 1) = true := decide_eq_true (by omega)
     have R : Hid (res = (false, v' + 1)) := by show _ = _; rw [hR2.out, if_pos k1]
     have hS2 := hJ (hS.out.setV (v' + 1))
     rw [show ((v' + 1 : Nat) : Int) = (v' : Int) + 1 by omega] at hS2
     clear hR2 k1 hS
     go_wp2
     go_ret
     rw [R.out]
     exact ⟨pick', rfl, hS2.out, htk.out⟩
    ·have d2 : decide (65536 < (v' : Int) + 1) = false := decide_eq_false (by omega)
     have hR3 : Hid (res = if (standG t r pre i (v' + 1)).1 then (true, (standG t r pre i (v' + 1)).2) else standO (standG t r pre) (x.opts.drop (i + 1)) ((i : Int) + 1) (standG t r pre i (v' + 1)).2) := by show _ = _; rw [hR2.out, if_neg k1]
     have hpl : pre.length < pick'.length := by rw [hS.out.plen]; exact hlt
     have c4 : wr.cell? ⟨Pb, 0, none⟩ = some (.slice (some ⟨Pk, 0, none⟩) t.length t.length) := hS.out.pbox.cell 0
     have l4 := hS.out.pbox.lt
     obtain ⟨z, hz⟩ : ∃ z, pick'[pre.length]? = some z := ⟨_, List.getElem?_eq_getElem hpl⟩
     have c5 : wr.cell? ⟨Pk, pre.length, none⟩ = some (.int .i64 z) := by rw [hS.out.row.cell]; simp [hz]
     have l5 := hS.out.row.lt
     have f5 := hS.out.row.frozen pre.length
     have n1 : Vb ≠ Pk := hS.out.vp
     have n2 : Vb ≠ Pb := fun e => (hS.out.pbox.ne_ hS.out.vbox (by decide)) e.symm
     clear hR2 hz
     go_upto_region 10 with (fail)
     refine wp_abs (S := fun W => Hid (StF w0 W Lb Sb Vb Pb Fb Pk la lc (some ⟨b1, o1, none⟩) sc t (v' + 1) (pick'.set pre.length i))) ?_ ?_
     ·have h9 := (hS.out.setV (v' + 1)).setP pre.length (i : Int)
      rw [show ((v' + 1 : Nat) : Int) = (v' : Int) + 1 by omega] at h9
      exact hJ h9
     rintro W hS2
     obtain ⟨pk2, hpk⟩ : ∃ p, Hid (pick'.set pre.length (i : Int) = p) := ⟨_, rfl⟩
     have htk2 : Hid (pk2.take (pre.length + 1) = pre ++ [(i : Int)]) := by show _ = _; rw [← hpk.out]; exact pre_set htk.out hpl
     rw [hpk.out] at hS2
     clear c3 l3 f3 d2 c4 l4 c5 l5 f5 n1 n2 hS htk hpl hpk
     have hop2 := hJ (optOf_snoc hx'.out h1 hop'.out)
     obtain ⟨c, hc9⟩ : ∃ c, Hid (earlierI t pk2 pre.length = c) := ⟨_, rfl⟩
     have hG : Hid (standG t r pre i (v' + 1) = if 0 ≤ c then (false, v' + 1) else standF t r (pre ++ [(i : Int)]) (v' + 1)) := by
      show _ = _
      unfold standG
      rw [lastClash_snoc htk2.out, hc9.out]
     have hcl : Hid (∀ W2, Ext W W2 → Calls Tryz.prog 47 #[.agg #[.slice (some ⟨b1, o1, none⟩) t.length sc], .slice (some ⟨Pk, 0, none⟩) t.length t.length, .int .i64 pre.length] W2 fun e w' => e = .returned (.int .i64 c) ∧ Ext W2 w') := fun W2 hW2 => by
      rw [← hc9.out]
      refine clash_core_calls _ _ t pk2 pre.length W2 (hw'.out.ext (hS2.out.ext.trans hW2)) ((hS2.out.ints hl).ext hW2) hsp fun j hj => ?_
      have h8 := hop2.out j (by simp; omega)
      rw [← htk2.out] at h8
      rwa [optOf_take (by omega)] at h8
     have c2 : W.cell? ⟨Sb, 0, none⟩ = some (.slice (some ⟨b1, o1, none⟩) t.length sc) := hS2.out.sbox.cell 0
     have c4 : W.cell? ⟨Pb, 0, none⟩ = some (.slice (some ⟨Pk, 0, none⟩) t.length t.length) := hS2.out.pbox.cell 0
     have l2 := hS2.out.sbox.lt
     have l4 := hS2.out.pbox.lt
     go_wp2_with fail
     refine (hcl.out W (Ext.refl _)).mono ?_
     rintro e W2 ⟨rfl, hx2⟩
     have hS3 := hJ (hS2.out.toExt hx2)
     clear c2 c4 l2 l4 hcl hx2 hS2 hc9
     by_cases hc0 : 0 ≤ c
     ·have d3 : decide (c < 0) = false := decide_eq_false (by omega)
      have R : Hid (res = standO (standG t r pre) (x.opts.drop (i + 1)) ((i : Int) + 1) (v' + 1)) := by
       show _ = _
       rw [hR3.out, hG.out, if_pos hc0]
       rfl
      have htk3 := hJ (take_le htk2.out)
      clear hR3 hG hc0 hop2 htk2
      go_wp2
      go_roundw
      case rel => first | exact ⟨i + 1, v' + 1, pk2, h1, by go_num, by omega, R, hS3, htk3⟩ | ((repeat apply Exists.intro); exact ⟨⟨i + 1, v' + 1, pk2, h1, by go_num, by omega, R, hS3, htk3⟩, rfl⟩)
      case measure => simp [intOf]; omega
     ·have d3 : decide (c < 0) = true := decide_eq_true (by omega)
      have hR4 : Hid (res = if (standF t r (pre ++ [(i : Int)]) (v' + 1)).1 then (true, (standF t r (pre ++ [(i : Int)]) (v' + 1)).2) else standO (standG t r pre) (x.opts.drop (i + 1)) ((i : Int) + 1) (standF t r (pre ++ [(i : Int)]) (v' + 1)).2) := by
       show _ = _
       rw [hR3.out, hG.out, if_neg hc0]
      have hcall := ih'.out W2 (v' + 1) pk2 (pre ++ [(i : Int)]) hS3.out (by rw [List.length_append, List.length_singleton]; exact htk2.out) (by rw [List.length_append, List.length_singleton]; exact hdr'.out) (by rw [List.length_append, List.length_singleton]; exact hlt) hop2.out (by omega)
      have hbd := standF_bd t r (pre ++ [(i : Int)]) (v' + 1) (by omega)
      obtain ⟨q, v2, hq⟩ : ∃ q v2, Hid (standF t r (pre ++ [(i : Int)]) (v' + 1) = (q, v2)) := ⟨_, _, rfl⟩
      rw [List.length_append, List.length_singleton, hq.out] at hcall
      rw [hq.out] at hR4 hbd
      dsimp only at hcall hbd
      rw [show ((pre.length + 1 : Nat) : Int) = (pre.length : Int) + 1 by omega] at hcall
      have hcall' := hJ hcall
      have c5 : W2.cell? ⟨Fb, 0, none⟩ = some (.func (.func 72) #[] #[.pointer (some ⟨Lb, 0, none⟩), .pointer (some ⟨Sb, 0, none⟩), .pointer (some ⟨Vb, 0, none⟩), .pointer (some ⟨Pb, 0, none⟩), .pointer (some ⟨Fb, 0, none⟩)]) := hS3.out.fbox.cell 0
      have l5 := hS3.out.fbox.lt
      clear hR3 hG hc0 hop2 htk2 hq hcall hS3
      go_wp2_with fail
      refine hcall'.out.mono ?_
      rintro e W3 ⟨pk3, rfl, hS4, htk4⟩
      have hS5 := hJ hS4
      have htk5 := hJ (take_le htk4)
      clear hcall' c5 l5 hS4 htk4
      cases q with
      | true =>
       have R : Hid (res = (true, v2)) := by show _ = _; rw [hR4.out]; rfl
       clear hR4
       go_wp2
       go_ret
       rw [R.out]
       exact ⟨pk3, rfl, hS5.out, htk5.out⟩
      | false =>
       have R : Hid (res = standO (standG t r pre) (x.opts.drop (i + 1)) ((i : Int) + 1) v2) := by show _ = _; rw [hR4.out]; rfl
       clear hR4
       go_wp2
       go_roundw
       case rel => first | exact ⟨i + 1, v2, pk3, h1, by go_num, hbd, R, hS5, htk5⟩ | ((repeat apply Exists.intro); exact ⟨⟨i + 1, v2, pk3, h1, by go_num, hbd, R, hS5, htk5⟩, rfl⟩)
       case measure => simp [intOf]; omega
   ·have R : Hid (res = (false, v')) := by show _ = _; rw [hR.out, List.drop_eq_nil_of_le (by omega)]; rfl
    clear hR
    go_wp2
    go_ret
    rw [R.out]
    exact ⟨pick', rfl, hS.out, htk.out⟩
end Go.Proofs.YtgolicoalldidaaGreat
namespace Go.Proofs.YtgolicoalldidaaGreat
open Go.RowKit
theorem reads_blkW {w : World} {g : Nat} {t : TypeId} {cs : Array Value} {size m : Nat} (h : Blk w g t cs) (hs : cs.size = m * size) : Reads w w.heap.size size (some ⟨g, 0, none⟩) m cs.toList :=
 ⟨by simp [hs], fun _ => ⟨⟨g, 0, none⟩, rfl, h.lt, fun j u hu => by
  have h1 := h.cell j
  rw [show (⟨g, 0, none⟩ : Addr).add j = ⟨g, j, none⟩ by unfold Addr.add; split <;> simp_all, h1]
  simpa using hu⟩⟩
theorem wish_cells (m : Int) (a b : Value) (ha : a.oneCell' = true) (hb : b.oneCell' = true) : ∀ u ∈ [Value.int .i64 m, a, b], u.oneCell' = true := by
 intro u hu
 simp only [List.mem_cons, List.not_mem_nil, or_false] at hu
 rcases hu with rfl | rfl | rfl
 ·rfl
 ·exact ha
 ·exact hb
theorem wishes_of_rowK {W : World} {B : Nat} {v : Value} {l : List WishD} {xs : List Value} (a : W.ownsRow B 64 3 v l.length xs) (b : WishesC W l xs) : Wishes W v l := by
 have hat := b.at_
 refine ⟨fun i => xs[i * 3 + 1]?.getD undef, fun i => xs[i * 3 + 2]?.getD undef, sl_of_owns a fun i hi j hj => ?_, fun i hi => ?_⟩
 ·obtain ⟨pv, ov, c0, c1, c2, d⟩ := hat i l[i] (List.getElem?_eq_getElem hi)
  rcases j with _ | _ | _ | j
  ·rw [Nat.add_zero, c0]; simp [hi]
  ·rw [c1]; simp [c1]
  ·rw [c2]; simp [c2]
  ·omega
 ·obtain ⟨pv, ov, c0, c1, c2, d⟩ := hat i l[i] (List.getElem?_eq_getElem hi)
  simp only [c1, c2, List.getElem?_eq_getElem hi, Option.getD_some]
  exact d
theorem sub_results {tmps : Array Value} {w : World} {g : Nat} {x : Value} (hp : tmps.getD 4 undef = .pointer (some ⟨g, 0, none⟩)) (hb : Blk w g 28 #[x]) :
  (results Tryz.f45 tmps).run Tryz.prog w = .ok (.agg #[x]) w :=
 results_cell_row Tryz.results45 tmps w g 28 _ (0, 0) _ hp hb Tryz.underlying28 rfl (by kernel_rfl)
theorem subT_take {t : List WishD} {l : List Int} {i : Nat} {x : Int} {y : WishD} (h : l[i]? = some x) (hx : t[x.toNat]? = some y) : subT t (l.take (i + 1)) = subT t (l.take i) ++ [y] := by
 rw [List.take_add_one, h]
 simp [subT, hx]
theorem sub_len (t : List WishD) (l : List Int) : (subT t l).length = l.length := by simp [subT]
set_option maxRecDepth 100000 in
theorem sub_calls (wv lv : Value) (t : List WishD) (l : List Int) (w : World) (h : Wishes w wv t) (hl : Ints w lv l) (hsel : ∀ x ∈ l, idxB x t.length = true) (hlen : l.length ≤ 1000) :
  Calls Tryz.prog 45 #[.agg #[wv], lv] w fun e w' => ∃ v, e = .returned (.agg #[v]) ∧ Wishes w' v (subT t l) ∧ Ext w w' := by
 obtain ⟨ta, tc, rfl, htn, htc, hat⟩ := h.open
 obtain ⟨la, lc, rfl, hn, hc, hlat⟩ := hl.open
 have hat' := hJ hat
 have hlat' := hJ hlat
 have hsel' := hJ hsel
 obtain ⟨j0, hj0, jz0, jz1, jz2⟩ := info_parts wish_info
 clear h hl hat hlat hsel
 go_enter Tryz.func45, Tryz.ntmps45
 go_upto_region 2 with (fail)
 refine wp_abs (S := fun W => Hid (Ext w W) ∧ Hid (Blk W w.heap.size 28 #[.slice ta t.length tc]) ∧ Hid (Blk W (w.heap.size + 1) 28 #[.slice none 0 0]) ∧ Hid (Blk W (w.heap.size + 2) 28 #[.slice none 0 0])) ?_ ?_
 ·exact ⟨hJ (by exact (by with_reducible repeat' (first | exact Ext.refl _ | assumption | refine Ext.drewN ?_ _ | refine Ext.drew ?_ | refine Ext.alloc ?_ _ | refine Ext.trans ?_ (by with_reducible assumption)))), hJ (Blk.alloc (Blk.alloc (blk_new' rfl rfl) _) _), hJ (Blk.alloc (blk_new' (by simp) rfl) _), hJ (blk_new' (by simp) rfl)⟩
 rintro W1 ⟨hE1, hB1, hR1, hO1⟩
 go_wp2_with fail
 go_loopw [10, 7] (fun vi _ wr => ∃ (i : Nat) (A : Option Addr) (C : Nat) (xs : List Value), i ≤ l.length ∧ vi = .int .i64 i ∧ Hid (Ext w wr) ∧ Hid (Blk wr w.heap.size 28 #[.slice ta t.length tc]) ∧ Hid (Blk wr (w.heap.size + 1) 28 #[.slice none 0 0]) ∧ Hid (Blk wr (w.heap.size + 2) 28 #[.slice A i C]) ∧ Hid (wr.ownsRow (w.heap.size + 3) 64 3 (.slice A i C) i xs) ∧ Hid (WishesC w (subT t (l.take i)) xs)) (fun vi _ _ => l.length - (intOf vi).toNat)
 case atStart => exact ⟨0, none, 0, [], by omega, rfl, hE1, hB1, hR1, hO1, hJ (World.ownsRow_nil _ _ _ _), hJ rfl⟩
 case round =>
  clear hE1 hB1 hR1 hO1
  obtain ⟨i, A, C, xs, hi, rfl, hE, hB, hR, hO, hown, hW⟩ := hrel
  by_cases h1 : i < l.length
  ·obtain ⟨b1, o1, x, rfl, hb1, _, ex, g1⟩ := hlat'.out i h1 wr hE.out
   obtain ⟨k, rfl, hk⟩ := idxB_nat (hsel'.out x (List.mem_of_getElem? ex.out))
   obtain ⟨b2, o2, y, pa, pc, oa, oc, rfl, hb2, _, ey, q1, q2, q3, gp, go⟩ := hat'.out k hk w (Ext.refl _)
   have hnext : Hid (subT t (l.take (i + 1)) = subT t (l.take i) ++ [y]) := subT_take ex.out (by simpa using ey.out)
   have hWn : Hid (WishesC w (subT t (l.take (i + 1))) (xs ++ [.int .i64 y.meeting, .slice pa y.people.length pc, .slice oa y.opts.length oc])) := by rw [hnext.out]; exact hJ (WishesC.snoc ⟨gp, go⟩ hW.out)
   have z1 := After.cell (hE.out.cell q1)
   have z2 := After.cell (hE.out.cell q2)
   have z3 := After.cell (hE.out.cell q3)
   have z4 := After.cell (show wr.cell? ⟨w.heap.size, 0, none⟩ = some (.slice (some ⟨b2, o2, none⟩) t.length tc) from hB.out.cell 0)
   have z5 := After.cell (show wr.cell? ⟨w.heap.size + 2, 0, none⟩ = some (.slice A i C) from hO.out.cell 0)
   clear q1 q2 q3 gp go ey ex hnext hW hb1
   go_upto_region 5 with (fail)
   clear g1
   (refine wp_region_held [] [0, 1, 2, 3, 4, 5, 6, 7] [8, 9, 10] (fun _ _ _ => True) (by kernel_rfl) (by kernel_rfl) ?_; simp only [pickL]; with_reducible refine wpQuiet_nil ?_)
   (refine held_quiet [0, 1, 2, 3, 4, 5, 6] [7] (by kernel_rfl) (by kernel_rfl) ?_; simp only [pickL, List.drop]; (repeat (go_big_quiet_step (fail))); with_reducible refine wpQuiet_nil ?_)
   (refine held_made 7 [] rfl (by kernel_rfl) (fun g => .slice (some ⟨g, 0, none⟩) 1 1) (.cells #[.int .i64 y.meeting, .slice pa y.people.length pc, .slice oa y.opts.length oc] 64) (fun W => by kernel_rfl) (fun g g2 e => by cases e; rfl) (fun g => rfl) ?_)
   intro gs
   simp only [Act.put, putA, putB, putC]
   intro V hxv hfc ht Q0 hQ0
   have h7 := (hfc 7).2 rfl
   have b7 : Blk V gs 64 #[.int .i64 y.meeting, .slice pa y.people.length pc, .slice oa y.opts.length oc] := h7.1
   have hsrc := hJ (reads_blkW (size := 3) (m := 1) b7 rfl)
   have hownV := hJ (owns_ext hown.out hxv)
   have hEV := hJ (hE.out.trans hxv)
   have kv := Keep.of_ext (X := fun _ => False) hxv
   have hBV := hJ (kv.blk hB.out id)
   have hRV := hJ (kv.blk hR.out id)
   have hOV := hJ (kv.blk hO.out id)
   have hsz : w.heap.size + 3 ≤ V.heap.size := by have := hOV.out.lt; omega
   simp only [pickL, List.drop]
   clear hfc ht h7 b7 z1 z2 z3 z4 z5 hown hE kv hB hR hO hxv
   go_wp2_with (at_builtin; refine wpList_append_any _ rfl (.tmp 15) (.tmp 21) _ rfl (w.heap.size + 3) 64 j0 _ 3 56 Tryz.underlying26 hj0 jz0 jz1 jz2 rfl (by decide) (.slice A i C) i _ rfl hownV.out V.heap.size (some ⟨gs, 0, none⟩) 1 1 _ rfl hsrc.out (wish_cells _ _ _ rfl rfl) (by unfold maxLen; omega) (by omega) hsz ?_; intro v5 w5 hown5 hg5 hat5; obtain ⟨A5, C5, rfl⟩ := owns_form hown5; have hOb5 : Blk w5 (w.heap.size + 2) 28 #[.slice A i C] := hOV.out.grown hg5 (fun e => by have := (hownV.out.lt _ e.symm).1; omega); have m5 : w5.cell? ⟨w.heap.size + 2, 0, none⟩ = some (.slice A i C) := hOb5.cell 0; have f5 := hOb5.frozen 0; have lt5 := hOb5.lt)
   have hg6 : w5.heap.size ≥ V.heap.size := hg5.size
   have hE5 := hEV.out.grown hg5 (fun k e => by have := (hownV.out.lt _ e).1; omega)
   have hB5 := hBV.out.grown hg5 (fun e => by have := (hownV.out.lt _ e.symm).1; omega)
   have hR5 := hRV.out.grown hg5 (fun e => by have := (hownV.out.lt _ e.symm).1; omega)
   have hO5 := hOb5.set_ 0 (.slice A5 (i + 1) C5)
   have k5 := keep_set w5 (w.heap.size + 2) 0 (.slice A5 (i + 1) C5)
   have o5 := k5.owns hown5 (fun g e h => by have := (hown5.lt _ e).1; omega)
   refine ⟨⟨i + 1, A5, C5, _, h1, by go_num, hJ (hE5.setCell (by show w.heap.size ≤ w.heap.size + 2; omega) _), hJ (hB5.far (by show w.heap.size ≠ w.heap.size + 2; omega) _), hJ (hR5.far (by show w.heap.size + 1 ≠ w.heap.size + 2; omega) _), hJ hO5, hJ o5, hWn⟩, ?_⟩
   simp [intOf]; omega
  ·have hWl : Hid (WishesC w (subT t l) xs) := by
    have := hW.out
    rwa [List.take_of_length_le (by omega)] at this
   obtain rfl : i = l.length := by omega
   have m5 : wr.cell? ⟨w.heap.size + 2, 0, none⟩ = some (.slice A l.length C) := hO.out.cell 0
   have m6 : wr.cell? ⟨w.heap.size + 1, 0, none⟩ = some (.slice none 0 0) := hR.out.cell 0
   have f6 := hR.out.frozen 0
   have l5 := hO.out.lt
   have l6 := hR.out.lt
   clear hW
   go_wp2
   refine bodyPost_ret (sub_results rfl (hR.out.set_ 0 _)) rfl ?_
   have hE9 := hE.out.setCell (p := ⟨w.heap.size + 1, 0, none⟩) (by show w.heap.size ≤ w.heap.size + 1; omega) (.slice A l.length C)
   have o9 := (keep_set wr (w.heap.size + 1) 0 (.slice A l.length C)).owns hown.out (fun g e h => by have := (hown.out.lt _ e).1; omega)
   exact ⟨_, rfl, wishes_of_rowK (by rw [sub_len]; exact o9) (hWl.out.ext hE9), hE9⟩
theorem run_store_func {P : Program} {w : World} {a : Addr} {m : Mode} (f : Fn) (b c : Array Value) : (store a (.func f b c) m).run P w = stored P w a (.func f b c) m := run_store P w a _ m rfl
attribute [local go_sem] Oper.semAt_some run_store_func
theorem sub_spans {t : List WishD} {l : List Int} (h : SpansIn t) (hsel : ∀ x ∈ l, idxB x t.length = true) : SpansIn (subT t l) := fun y hy => by
 obtain ⟨i, hi, rfl⟩ := List.mem_map.1 hy
 obtain ⟨k, rfl, hk⟩ := idxB_nat (hsel i hi)
 rw [Int.toNat_natCast, List.getElem?_eq_getElem hk]
 exact h _ (List.getElem_mem hk)
set_option maxRecDepth 100000 in
theorem stands_calls (wv lv : Value) (t : List WishD) (l : List Int) (w : World) (h : Wishes w wv t) (hl : Ints w lv l) (hsel : ∀ x ∈ l, idxB x t.length = true) (hlen : l.length ≤ 512) (hsp : SpansIn t) :
  Calls Tryz.prog 41 #[.agg #[wv], lv] w fun e w' => e = .returned (.tuple #[.bool (standsT t l).1, .int .i64 (standsT t l).2]) ∧ Ext w w' := by
 have hsub := hJ fun (W : World) (hW : Ext w W) => sub_calls wv lv t l W (h.ext hW) (hl.ext hW) hsel (by omega)
 obtain ⟨ta, tc, rfl, _⟩ := h.open
 obtain ⟨la, lc, rfl, _⟩ := hl.open
 obtain ⟨s, hs⟩ : ∃ s, Hid (subT t l = s) := ⟨_, rfl⟩
 have hsl : Hid (s.length = l.length) := by show _ = _; rw [← hs.out, sub_len]
 have hss : SpansIn s := hs.out ▸ sub_spans hsp hsel
 have hmk := run_make_ints s.length (by rw [hsl.out]; omega)
 have hT : Hid (standsT t l = if 65536 < (standF s s [] 0).2 then (false, 2) else ((standF s s [] 0).1, 0)) := by show _ = _; unfold standsT standsS; rw [hs.out]
 have hbd := standF_bd s s [] 0 (by omega)
 obtain ⟨q, v, hq⟩ : ∃ q v, Hid (standF s s [] 0 = (q, v)) := ⟨_, _, rfl⟩
 rw [hq.out] at hT hbd
 dsimp only at hbd
 rw [hs.out] at hsub
 rw [← hsl.out] at hsub hlen ⊢
 clear h hl hsp hsel hs hsl
 go_enter Tryz.func41, Tryz.ntmps41
 go_wp2_with fail
 refine (hsub.out _ (by exact (by with_reducible repeat' (first | exact Ext.refl _ | assumption | refine Ext.drewN ?_ _ | refine Ext.drew ?_ | refine Ext.alloc ?_ _ | refine Ext.trans ?_ (by with_reducible assumption))))).mono ?_
 rintro e W1 ⟨sv, rfl, hW1, hx1⟩
 obtain ⟨sa, sc, rfl⟩ := hW1.form
 have hWs := hJ hW1
 have hE1 := hJ (((Ext.refl w).alloc (.cells #[.slice ta t.length tc] 28)).alloc (.cells #[.slice la s.length lc] 31) |>.trans hx1)
 have hL1 : Hid (Blk W1 (w.heap.size + 1) 31 #[.slice la s.length lc]) := hJ ((Keep.of_ext (X := fun _ => False) hx1).blk (blk_new' (by simp) rfl) id)
 clear hW1 hx1 hsub
 have c0 : W1.cell? ⟨w.heap.size + 1, 0, none⟩ = some (.slice la s.length lc) := hL1.out.cell 0
 have l0 := hL1.out.lt
 go_upto_region 6 with (fail)
 clear hmk c0
 refine wp_abs (S := fun W => Hid (StF W1 W (w.heap.size + 1) W1.heap.size (W1.heap.size + 3) (W1.heap.size + 2) (W1.heap.size + 4) (W1.heap.size + 1) la lc sa sc s 0 (zerosL s.length))) ?_ ?_
 ·have e9 : (zerosL s.length).length = s.length := zerosL_len _
  refine hJ ⟨?_, ?_, ?_, ?_, ?_, ?_, ?_, e9, by omega, by omega, by omega⟩
  ·exact (by with_reducible repeat' (first | exact Ext.refl _ | assumption | refine Ext.drewN ?_ _ | refine Ext.drew ?_ | refine Ext.alloc ?_ _ | refine Ext.trans ?_ (by with_reducible assumption)))
  ·exact Blk.alloc (Blk.alloc (Blk.alloc (Blk.alloc (Blk.alloc hL1.out _) _) _) _) _
  ·exact Blk.alloc (Blk.alloc (Blk.alloc (Blk.alloc (blk_new' rfl rfl) _) _) _) _
  ·exact Blk.alloc (blk_new' (by simp) rfl) _
  ·exact Blk.alloc (Blk.alloc (blk_new' (by simp) rfl) _) _
  ·exact blk_new' (by simp) rfl
  ·exact Blk.alloc (Blk.alloc (Blk.alloc (blk_new' (by simp) rfl) _) _) _
 rintro W2 hS
 have hcall := from_calls W1 (w.heap.size + 1) W1.heap.size (W1.heap.size + 3) (W1.heap.size + 2) (W1.heap.size + 4) (W1.heap.size + 1) la sa lc sc s hWs.out hss hlen s W2 0 (zerosL s.length) [] hS.out rfl rfl (by simp) (fun j hj => by simp at hj) (by omega)
 rw [hq.out] at hcall
 dsimp only [List.length_nil] at hcall
 have hcall' := hJ hcall
 have c5 : W2.cell? ⟨W1.heap.size + 1 + 1 + 1 + 1, 0, none⟩ = some (.func (.func 72) #[] #[.pointer (some ⟨w.heap.size + 1, 0, none⟩), .pointer (some ⟨W1.heap.size, 0, none⟩), .pointer (some ⟨W1.heap.size + 3, 0, none⟩), .pointer (some ⟨W1.heap.size + 2, 0, none⟩), .pointer (some ⟨W1.heap.size + 4, 0, none⟩)]) := hS.out.fbox.cell 0
 have l5 : W1.heap.size + 1 + 1 + 1 + 1 < W2.heap.size := hS.out.fbox.lt
 have hg : ∀ (y : Array Value) (W : World), (callFunc 72 y).run Tryz.prog W = .ok (.enter 72 y) W := fun _ _ => by kernel_rfl
 clear hcall hS hq
 go_wp2_with fail
 refine hcall'.out.mono ?_
 rintro e W3 ⟨pk3, rfl, hS4, _⟩
 have hS5 := hJ hS4
 have c6 : W3.cell? ⟨W1.heap.size + 1 + 1 + 1, 0, none⟩ = some (.int .i64 (v : Int)) := hS4.vbox.cell 0
 have l6 : W1.heap.size + 1 + 1 + 1 < W3.heap.size := hS4.vbox.lt
 clear hcall' c5 l5 hS4
 by_cases h1 : 65536 < v
 ·have d1 : decide (65536 < (v : Int)) = true := decide_eq_true (by omega)
  have R : Hid (standsT t l = (false, 2)) := by show _ = _; rw [hT.out, if_pos h1]
  go_wp2
  go_ret2
  rw [R.out]
  exact ⟨rfl, hE1.out.trans hS5.out.ext⟩
 ·have d1 : decide (65536 < (v : Int)) = false := decide_eq_false (by omega)
  have R : Hid (standsT t l = (q, 0)) := by show _ = _; rw [hT.out, if_neg h1]
  go_wp2
  go_ret2
  rw [R.out]
  exact ⟨rfl, hE1.out.trans hS5.out.ext⟩
theorem selB_idx {n : Nat} : ∀ {l : List Int} {last : Int}, -1 ≤ last → selB n last l = true → ∀ x ∈ l, idxB x n = true
 | [], _, _, _, x, hx => by cases hx
 | y :: r, last, h0, h, x, hx => by
  simp only [selB, Bool.and_eq_true, decide_eq_true_eq] at h
  rcases List.mem_cons.1 hx with rfl | hx
  ·simp only [idxB, Bool.and_eq_true, decide_eq_true_eq]; omega
  ·exact selB_idx (by omega) h.2 x hx
theorem selB_len {n : Nat} : ∀ {l : List Int} {last : Int}, -1 ≤ last → selB n last l = true → (l.length : Int) + last + 1 ≤ n ∨ l = []
 | [], _, _, _ => Or.inr rfl
 | y :: r, last, h0, h => by
  simp only [selB, Bool.and_eq_true, decide_eq_true_eq] at h
  left
  rcases selB_len (l := r) (by omega) h.2 with h1 | rfl
  ·simp only [List.length_cons]; omega
  ·simp; omega
theorem checkI_ok {t : List WishD} {l : List Int} (h : checkI t l = 0) : validT t = 0 ∧ selB t.length (-1) l = true := by
 unfold checkI at h
 by_cases hv : validT t = 0
 ·rw [if_pos hv] at h
  refine ⟨hv, ?_⟩
  cases hs : selB t.length (-1) l with
  | true => rfl
  | false => rw [hs] at h; cases h
 ·rw [if_neg hv] at h
  exact absurd h hv
theorem sel_few {t : List WishD} {l : List Int} (h : checkI t l = 0) : l.length ≤ 512 ∧ (∀ x ∈ l, idxB x t.length = true) := by
 obtain ⟨hv, hs⟩ := checkI_ok h
 refine ⟨?_, selB_idx (by omega) hs⟩
 have h5 := tooLarge_len (validT_ok hv).1
 rcases selB_len (by omega) hs with h1 | rfl
 ·omega
 ·simp
theorem spans_valid {t : List WishD} (hv : validT t = 0) : SpansIn t := fun x hx o ho => by
 obtain ⟨h1, h2, _⟩ := validT_ok hv
 have hw := wishOk_opt (h2 x hx) ho
 simp only [optOkB, normalB, Bool.and_eq_true] at hw
 refine ⟨hw.2.2, fun s hs => (chainB_mem hw.2.1 s hs).1, ?_⟩
 simp only [tooLargeB, Bool.or_eq_false_iff, decide_eq_false_iff_not, List.any_eq_false] at h1
 have h3 := h1.2 x hx
 simp only [Bool.or_eq_true, decide_eq_true_eq, List.any_eq_true, not_or, not_exists, not_and] at h3
 have h4 := h3.2 o ho
 omega
end Go.Proofs.YtgolicoalldidaaGreat
