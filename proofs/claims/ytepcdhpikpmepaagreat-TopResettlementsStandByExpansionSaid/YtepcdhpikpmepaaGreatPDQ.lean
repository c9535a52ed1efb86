/- Merged parts: PlanWalksG, PlanWalksH, Mem, PlanWalksI. -/
import Derived.Test.YtepcdhpikpmepaaGreatPCQ
import Derived.Test.YtepcdhpikpmepaaGreatPAQ
import Derived.Below
import Derived.Laws.OwnMore
import Derived.Deep.AppendLies
import Derived.Deep.Draws
import Derived.Laws.Rows
import Derived.Maps.AppendAt
import Derived.RegionTactic
import Derived.OwnWalk
import Derived.Deep.RegionLaw
/- Walks of package plan: isChoice, earlier, Lawful, Harm. -/
namespace Go.Proofs.YtepcdhpikpmepaaGreat
open Go.RowKit

theorem choiceB_len {t : List WishD} : ∀ {p : List Int}, choiceB t p = true → p.length = t.length := by
 induction t with
 | nil => intro p h; cases p with
  | nil => rfl
  | cons k p => simp [choiceB] at h
 | cons x t ih => intro p h; cases p with
  | nil => simp [choiceB] at h
  | cons k p => simp [choiceB] at h; simp [ih h.2]
theorem choiceB_ne {t : List WishD} {p : List Int} (h : p.length ≠ t.length) : choiceB t p = false := by
 cases hc : choiceB t p with
 | true => exact absurd (choiceB_len hc) h
 | false => rfl
theorem choiceB_step {t : List WishD} {p : List Int} {i : Nat} {x : WishD} {k : Int} (d : t.drop i = x :: t.drop (i + 1)) (d' : p.drop i = k :: p.drop (i + 1)) :
  choiceB (t.drop i) (p.drop i) = (idxB k x.opts.length && choiceB (t.drop (i + 1)) (p.drop (i + 1))) := by rw [d, d']; rfl

set_option maxHeartbeats 800000 in
theorem isChoice_calls (wv pv : Value) (t : List WishD) (pick : List Int) (w : World) (h : Wishes w wv t) (hp : Ints w pv pick) :
  Calls Tryz.prog 45 #[.agg #[wv], pv] w fun e w' => e = .returned (.bool (choiceB t pick)) ∧ Ext w w' := by
 obtain ⟨ta, tc, rfl, hn, hc, hat⟩ := h.open
 obtain ⟨pa, pc, rfl, hpn, hpc, hpat⟩ := hp.open
 clear h hp
 by_cases hl : pick.length = t.length
 ·have hl' := Lib.hid hl
  have hle : pick.length ≤ t.length := by omega
  have hge : t.length ≤ pick.length := by omega
  have hb : ((pick.length : Int) != (t.length : Int)) = false := by rw [hl]; simp
  have hb2 : ((pick.length : Int) == (t.length : Int)) = true := by rw [hl]; simp
  clear hl
  go_enter Tryz.func45, Tryz.ntmps45
  go_wp2_with fail
  refine wp_abs (S := fun W => Ext w W ∧ W.cell? ⟨w.heap.size, 0, none⟩ = some (.slice ta t.length tc)) ⟨(by with_reducible repeat' (first | exact Ext.refl _ | assumption | refine Ext.drewN ?_ _ | refine Ext.drew ?_ | refine Ext.alloc ?_ _ | refine Ext.trans ?_ (by with_reducible assumption))), by simp⟩ ?_
  rintro W1 ⟨hx1, c0⟩
  go_loopw [15] (fun vi wr => ∃ i : Nat, i ≤ t.length ∧ vi = .int .i64 i ∧ Ext W1 wr ∧ Hid (choiceB t pick = choiceB (t.drop i) (pick.drop i))) (fun vi _ => t.length - (intOf vi).toNat)
  case atStart => exact ⟨0, by omega, rfl, Ext.refl _, rfl⟩
  case round =>
   obtain ⟨i, hi, rfl, hx, hF⟩ := hrel
   have d0 := hx.cell c0
   have hxw := hx1.trans hx
   by_cases h1 : i < t.length
   ·have h1' : i < pick.length := by omega
    obtain ⟨b1, o1, x, xa, xc, oa, oc, rfl, hb1, dx, ex, g1, g2, g3, gp, go⟩ := hat i h1 wr hxw
    obtain ⟨b2, o2, k, rfl, hb2, dk, ek, k1⟩ := hpat i h1' wr hxw
    have lo := go.len
    clear hat hpat gp go hb hb2
    cases hk : idxB k x.opts.length with
    | true =>
     have R : Hid (choiceB t pick = choiceB (t.drop (i + 1)) (pick.drop (i + 1))) := by show _ = _; rw [hF.out, choiceB_step dx.out dk.out, hk]; rfl
     have hk' := Lib.hid hk
     clear hF hk
     go_wp2_with fail
     refine (index_calls _ _ _).mono ?_
     rintro e w2 ⟨rfl, hx2⟩
     rw [hk'.out]
     go_wp2
     go_roundw
     case rel => exact ⟨i + 1, by omega, by go_num, hx.trans hx2, R⟩
     case measure => simp [intOf]; omega
    | false =>
     have R : Hid (choiceB t pick = false) := by show _ = _; rw [hF.out, choiceB_step dx.out dk.out, hk]; rfl
     have hk' := Lib.hid hk
     clear hF hk
     go_wp2_with fail
     refine (index_calls _ _ _).mono ?_
     rintro e w2 ⟨rfl, hx2⟩
     rw [hk'.out]
     go_wp2
     go_ret
     rw [R.out]
     exact ⟨rfl, hxw.trans hx2⟩
   ·have R : Hid (choiceB t pick = true) := by show _ = _; rw [hF.out, List.drop_of_length_le (by omega), List.drop_of_length_le (by omega)]; rfl
    have h1' : ¬ i < pick.length := by omega
    clear hF hat hpat hb hb2
    go_wp2
    go_ret
    rw [R.out]
    exact ⟨rfl, hxw⟩
 ·have R : Hid (choiceB t pick = false) := choiceB_ne hl
  have hb : ((pick.length : Int) != (t.length : Int)) = true := by rw [bne_iff_ne]; omega
  have hb2 : ((pick.length : Int) == (t.length : Int)) = false := by rw [beq_eq_false_iff_ne]; omega
  clear hat hpat hl
  go_enter Tryz.func45, Tryz.ntmps45
  go_wp2
  go_ret
  rw [R.out]
  exact ⟨rfl, (by with_reducible repeat' (first | exact Ext.refl _ | assumption | refine Ext.drewN ?_ _ | refine Ext.drew ?_ | refine Ext.alloc ?_ _ | refine Ext.trans ?_ (by with_reducible assumption)))⟩

/-! ### earlier -/
def optOf (t : List WishD) (pick : List Int) (j : Nat) : Option (WishD × OptD) :=
 (t[j]?).bind fun x => (pick[j]?).bind fun k => if 0 ≤ k then (x.opts[k.toNat]?).map fun o => (x, o) else none
def clashAt (t : List WishD) (pick : List Int) (i d : Nat) : Bool :=
 match optOf t pick i, optOf t pick d with
 | some (x, o), some (y, p) => clashB x y o p
 | _, _ => false
def earlierI (t : List WishD) (pick : List Int) (d : Nat) : Int := findI (fun i => clashAt t pick i d) (List.range d)
theorem optOf_spec {t : List WishD} {pick : List Int} {j : Nat} {r : WishD × OptD} (h : optOf t pick j = some r) : ∃ n : Nat, t[j]? = some r.1 ∧ pick[j]? = some (n : Int) ∧ r.1.opts[n]? = some r.2 := by
 unfold optOf at h
 rw [Option.bind_eq_some_iff] at h
 obtain ⟨x, h1, h⟩ := h
 rw [Option.bind_eq_some_iff] at h
 obtain ⟨k, h2, h⟩ := h
 split at h
 ·rename_i hk
  rw [Option.map_eq_some_iff] at h
  obtain ⟨o, h3, rfl⟩ := h
  exact ⟨k.toNat, h1, by rw [h2]; congr 1; omega, h3⟩
 ·cases h

set_option maxHeartbeats 800000 in
theorem earlier_calls (wv pv : Value) (t : List WishD) (pick : List Int) (d : Nat) (w : World) (h : Wishes w wv t) (hp : Ints w pv pick) (ht : TaskIn t)
  (hd : ∀ j, j ≤ d → (optOf t pick j).isSome) :
  Calls Tryz.prog 39 #[.agg #[wv], pv, .int .i64 d] w fun e w' => e = .returned (.int .i64 (earlierI t pick d)) ∧ Ext w w' := by
 have hh := Lib.hid h
 have hdd := Lib.hid hd
 obtain ⟨ta, tc, rfl, hn, hc, hat⟩ := h.open
 obtain ⟨pa, pc, rfl, hpn, hpc, hpat⟩ := hp.open
 clear h hp hd
 obtain ⟨⟨y, p⟩, hy⟩ := Option.isSome_iff_exists.1 (hdd.out d (Nat.le_refl _))
 obtain ⟨m, hy1, hy2, hy3⟩ := optOf_spec hy
 have hyy := Lib.hid hy
 have hm1 := Lib.hid hy2
 have hm2 := Lib.hid hy3
 have hm3 := Lib.hid hy1
 have lt : d < t.length := (List.getElem?_eq_some_iff.1 hy1).1
 have lp : d < pick.length := (List.getElem?_eq_some_iff.1 hy2).1
 clear hy hy1 hy2 hy3
 dsimp only at hm2 hm3
 go_enter Tryz.func39, Tryz.ntmps39
 go_wp2_with fail
 refine wp_abs (S := fun W => Ext w W ∧ W.cell? ⟨w.heap.size, 0, none⟩ = some (.slice ta t.length tc)) ⟨(by with_reducible repeat' (first | exact Ext.refl _ | assumption | refine Ext.drewN ?_ _ | refine Ext.drew ?_ | refine Ext.alloc ?_ _ | refine Ext.trans ?_ (by with_reducible assumption))), by simp⟩ ?_
 rintro W1 ⟨hx1, c0⟩
 go_loopw [9] (fun vi wr => ∃ i : Nat, i ≤ d ∧ vi = .int .i64 i ∧ Ext W1 wr ∧ Hid (FindAt (fun i => clashAt t pick i d) (List.range d) i)) (fun vi _ => d - (intOf vi).toNat)
 case atStart => exact ⟨0, by omega, rfl, Ext.refl _, FindAt.zero _ _⟩
 case round =>
  obtain ⟨i, hi, rfl, hx, hF⟩ := hrel
  have d0 := After.cell (hx.cell c0)
  have hxw := hx1.trans hx
  by_cases h1 : i < d
  ·obtain ⟨⟨x, o⟩, hox⟩ := Option.isSome_iff_exists.1 (hdd.out i (by omega))
   obtain ⟨n, hx1', hx2', hx3'⟩ := optOf_spec hox
   dsimp only at hx1' hx3'
   have h2 : i < t.length := by omega
   have h3 : i < pick.length := by omega
   obtain ⟨b1, o1, x', xa, xc, oa, oc, rfl, hb1, dx, ex, g1, g2, g3, gp, go⟩ := hat i h2 wr hxw
   obtain ⟨b1', o1', y', xa', xc', oa', oc', e1, hb1', dy, ey, g1', g2', g3', gp', go'⟩ := hat d lt wr hxw
   cases e1
   obtain ⟨b2, o2, k, rfl, hb2, dk, ek, k1⟩ := hpat i h3 wr hxw
   obtain ⟨b2', o2', k', e2, hb2', dk', ek', k1'⟩ := hpat d lp wr hxw
   cases e2
   obtain rfl : x = x' := Option.some.inj (hx1'.symm.trans ex.out)
   obtain rfl : y = y' := Option.some.inj (hm3.out.symm.trans ey.out)
   obtain rfl : (n : Int) = k := Option.some.inj (hx2'.symm.trans ek.out)
   obtain rfl : (m : Int) = k' := Option.some.inj (hm1.out.symm.trans ek'.out)
   have q1 := After.cell g1
   have q2 := After.cell g2
   have q3 := After.cell g3
   have q1' := After.cell g1'
   have q2' := After.cell g2'
   have q3' := After.cell g3'
   have r1 := After.cell k1
   have r1' := After.cell k1'
   have hcl : Hid (∀ W, Ext wr W → Calls Tryz.prog 68 #[.agg #[.int .i64 x.meeting, .slice xa x.people.length xc, .slice oa x.opts.length oc], .agg #[.int .i64 y.meeting, .slice xa' y.people.length xc', .slice oa' y.opts.length oc'], .int .i64 n, .int .i64 m] W
     fun e w' => e = .returned (.bool (clashB x y o p)) ∧ Ext W w') := fun W hW =>
    clash_calls _ _ x y n m o p W ⟨_, _, rfl, gp.ext hW, go.ext hW⟩ ⟨_, _, rfl, gp'.ext hW, go'.ext hW⟩ (ht x (List.mem_of_getElem? ex.out)) (ht y (List.mem_of_getElem? ey.out)) hx3' hm2.out
   have hc : clashAt t pick i d = clashB x y o p := by simp only [clashAt, hox, hyy.out]
   have hr : (List.range d)[i]? = some i := by simp [h1]
   clear gp go gp' go' g1 g2 g3 g1' g2' g3' k1 k1' hat hpat hx1' hx2' hx3' hox dy dk dk' ek' ek
   cases hb : clashB x y o p with
   | true =>
    have R := Lib.hid (hF.out.hit hr (hc.trans hb))
    rw [hb] at hcl
    clear hb hc hr
    go_wp2_with fail
    refine wp_region_after (by kernel_rfl) (by kernel_rfl) ?_
    repeat (go_big_quiet_step (exact After.call _ (hcl.out _ (After.ext _))))
    refine wpQuiet_nil ?_
    rintro _ ⟨z, rfl⟩
    go_wp2
    go_ret
    unfold earlierI
    rw [R.out]
    exact ⟨rfl, hxw.trans z.ext⟩
   | false =>
    have R := Lib.hid (hF.out.miss hr (hc.trans hb))
    rw [hb] at hcl
    clear hb hc hr
    go_wp2_with fail
    refine wp_region_after (by kernel_rfl) (by kernel_rfl) ?_
    repeat (go_big_quiet_step (exact After.call _ (hcl.out _ (After.ext _))))
    refine wpQuiet_nil ?_
    rintro _ ⟨z, rfl⟩
    go_wp2
    go_roundw
    case rel => exact ⟨i + 1, by omega, by go_num, hx.trans z.ext, R⟩
    case measure => simp [intOf]; omega
  ·have R : Hid (earlierI t pick d = -1) := hF.out.none (by simp; omega)
   clear hF hat hpat
   go_wp2
   go_ret
   rw [R.out]
   exact ⟨rfl, hxw⟩

end Go.Proofs.YtepcdhpikpmepaaGreat

/- Walks of package plan: Lawful, Harm. -/
namespace Go.Proofs.YtepcdhpikpmepaaGreat
open Go.RowKit

def freeB (t : List WishD) (pick : List Int) : Bool := (List.range pick.length).all fun d => !decide (0 ≤ earlierI t pick d)
def lawfulB (t : List WishD) (pick : List Int) : Bool := decide (validT t = 0) && choiceB t pick && freeB t pick

theorem optOf_of_choice {t : List WishD} : ∀ {p : List Int}, choiceB t p = true → ∀ j, j < t.length → (optOf t p j).isSome := by
 induction t with
 | nil => intro p _ j hj; simp at hj
 | cons x t ih =>
  intro p h j hj
  cases p with
  | nil => simp [choiceB] at h
  | cons k p =>
   simp only [choiceB, Bool.and_eq_true] at h
   cases j with
   | zero =>
    obtain ⟨n, rfl, hn⟩ := idxB_nat h.1
    simp [optOf, hn]
   | succ j =>
    have := ih h.2 j (by simpa using hj)
    simpa [optOf] using this

theorem freeB_hit {t : List WishD} {pick : List Int} {d : Nat} (hd : d < pick.length) (h : 0 ≤ earlierI t pick d) : freeB t pick = false := by
 unfold freeB
 rw [List.all_eq_false]
 exact ⟨d, by simp [hd], by simpa using h⟩
def FreeTo (t : List WishD) (pick : List Int) (i : Nat) : Prop := ∀ d, d < i → ¬ 0 ≤ earlierI t pick d
theorem freeB_all {t : List WishD} {pick : List Int} (h : FreeTo t pick pick.length) : freeB t pick = true := by
 unfold freeB
 rw [List.all_eq_true]
 intro d hd
 have := h d (by simpa using hd)
 simpa using this

set_option maxHeartbeats 800000 in
theorem lawful_calls (wv pv : Value) (t : List WishD) (pick : List Int) (w : World) (h : Wishes w wv t) (hp : Ints w pv pick) :
  Calls Tryz.prog 24 #[.agg #[wv], pv] w fun e w' => e = .returned (.bool (lawfulB t pick)) ∧ Ext w w' := by
 have hT := Lib.hid h
 have hP := Lib.hid hp
 obtain ⟨ta, tc, rfl⟩ := h.form
 obtain ⟨pa, pc, rfl⟩ := hp.form
 have lp := hp.len
 clear h hp
 have hval : ∀ z, validT t = z → ∀ W, Ext w W → Calls Tryz.prog 17 #[.agg #[.slice ta t.length tc]] W fun e w' => e = .returned (.int .i64 z) ∧ Ext W w' :=
  fun z hz W hW => hz ▸ valid_calls _ t W (hT.out.ext hW)
 have bad : ∀ z, validT t = z → (z == 0) = false → Calls Tryz.prog 24 #[.agg #[.slice ta t.length tc], .slice pa pick.length pc] w fun e w' => e = .returned (.bool (lawfulB t pick)) ∧ Ext w w' := by
  intro z hz hz0
  have R : Hid (lawfulB t pick = false) := by show _ = _; simp [lawfulB, hz]; intro h; subst h; simp at hz0
  have hc1 := Lib.hid (hval z hz)
  have hz1 : (z != 0) = true := by simpa using hz0
  clear hval hz
  go_enter Tryz.func24, Tryz.ntmps24
  go_wp2_with fail
  refine (hc1.out _ (by with_reducible repeat' (first | exact Ext.refl _ | assumption | refine Ext.drewN ?_ _ | refine Ext.drew ?_ | refine Ext.alloc ?_ _ | refine Ext.trans ?_ (by with_reducible assumption)))).mono ?_
  rintro e w1 ⟨rfl, hx1⟩
  go_wp2
  go_ret
  rw [R.out]
  exact ⟨rfl, ((Ext.refl _).alloc _).trans hx1⟩
 rcases validT_cases t with hv | hv | hv
 rotate_left
 ·exact bad _ hv rfl
 ·exact bad _ hv rfl
 have hc1 := Lib.hid (hval _ hv)
 have hv' := Lib.hid hv
 clear hval hv bad
 have hch : Hid (∀ W, Ext w W → Calls Tryz.prog 45 #[.agg #[.slice ta t.length tc], .slice pa pick.length pc] W fun e w' => e = .returned (.bool (choiceB t pick)) ∧ Ext W w') :=
  fun W hW => isChoice_calls _ _ t pick W (hT.out.ext hW) (hP.out.ext hW)
 go_enter Tryz.func24, Tryz.ntmps24
 go_wp2_with fail
 refine (hc1.out _ (by with_reducible repeat' (first | exact Ext.refl _ | assumption | refine Ext.drewN ?_ _ | refine Ext.drew ?_ | refine Ext.alloc ?_ _ | refine Ext.trans ?_ (by with_reducible assumption)))).mono ?_
 rintro e w1 ⟨rfl, hx1⟩
 have c0 : w1.cell? ⟨w.heap.size, 0, none⟩ = some (.slice ta t.length tc) := hx1.cell (by simp)
 have hxw := ((Ext.refl w).alloc (.cells #[.slice ta t.length tc] 28)).trans hx1
 clear hx1 hc1
 go_wp2_with fail
 refine (hch.out _ hxw).mono ?_
 rintro e w2 ⟨rfl, hx2⟩
 cases hb : choiceB t pick with
 | false =>
  have R : Hid (lawfulB t pick = false) := by show _ = _; simp [lawfulB, hb]
  have hb' := Lib.hid hb
  clear hb
  go_wp2
  go_ret
  rw [R.out]
  exact ⟨rfl, hxw.trans hx2⟩
 | true =>
  have R0 : Hid (lawfulB t pick = freeB t pick) := by show _ = _; simp [lawfulB, hb, hv'.out]
  have hb' := Lib.hid hb
  clear hb
  have hea : Hid (∀ d, d < pick.length → ∀ W, Ext w W → Calls Tryz.prog 39 #[.agg #[.slice ta t.length tc], .slice pa pick.length pc, .int .i64 (d : Int)] W fun e w' => e = .returned (.int .i64 (earlierI t pick d)) ∧ Ext W w') :=
   fun d hd W hW => earlier_calls _ _ t pick d W (hT.out.ext hW) (hP.out.ext hW) (taskIn_of hv'.out) (fun j hj => optOf_of_choice hb'.out j (by have := choiceB_len hb'.out; omega))
  have c1 := hx2.cell c0
  have hxw2 := hxw.trans hx2
  clear c0
  go_wp2_with fail
  go_loopw [17] (fun vi wr => ∃ i : Nat, i ≤ pick.length ∧ vi = .int .i64 i ∧ Ext w2 wr ∧ Hid (FreeTo t pick i)) (fun vi _ => pick.length - (intOf vi).toNat)
  case atStart => exact ⟨0, by omega, rfl, Ext.refl _, fun d hd => absurd hd (by omega)⟩
  case round =>
   obtain ⟨i, hi, rfl, hx, hF⟩ := hrel
   have d0 := hx.cell c1
   have hxr := hxw2.trans hx
   by_cases h1 : i < pick.length
   ·have hcall := Lib.hid (hea.out i h1)
    by_cases he : 0 ≤ earlierI t pick i
    ·have R : Hid (lawfulB t pick = false) := R0.out.trans (freeB_hit h1 he)
     go_wp2_with fail
     refine (hcall.out _ hxr).mono ?_
     rintro e w3 ⟨rfl, hx3⟩
     go_wp2
     go_ret
     rw [R.out]
     exact ⟨rfl, hxr.trans hx3⟩
    ·have R : Hid (FreeTo t pick (i + 1)) := fun d hd => by
      by_cases e : d = i
      ·rw [e]; exact he
      ·exact hF.out d (by omega)
     go_wp2_with fail
     refine (hcall.out _ hxr).mono ?_
     rintro e w3 ⟨rfl, hx3⟩
     go_wp2
     go_roundw
     case rel => exact ⟨i + 1, by omega, by go_num, hx.trans hx3, R⟩
     case measure => simp [intOf]; omega
   ·have R : Hid (lawfulB t pick = true) := R0.out.trans (freeB_all (by have : i = pick.length := by omega
                                                                        rw [← this]; exact hF.out))
    go_wp2
    go_ret
    rw [R.out]
    exact ⟨rfl, hxr⟩

/-! ### Harm -/
def sumH : List WishD → List Int → Int
 | x :: t, k :: p => ((x.opts[k.toNat]?).getD default).harm + sumH t p
 | _, _ => 0
theorem sumH_step {t : List WishD} {p : List Int} {i : Nat} {x : WishD} {k : Int} (d : t.drop i = x :: t.drop (i + 1)) (d' : p.drop i = k :: p.drop (i + 1)) :
  sumH (t.drop i) (p.drop i) = ((x.opts[k.toNat]?).getD default).harm + sumH (t.drop (i + 1)) (p.drop (i + 1)) := by rw [d, d']; rfl
theorem optOk_harm {o : OptD} (h : optOkB o = true) : 0 ≤ o.harm ∧ o.harm ≤ 1000000 := by
 simp only [optOkB, Bool.and_eq_true, decide_eq_true_eq] at h
 exact ⟨h.1.1.1.1, h.1.1.1.2⟩
theorem wishOk_opt {x : WishD} (h : wishOkB x = true) {o : OptD} (ho : o ∈ x.opts) : optOkB o = true := by
 simp only [wishOkB, Bool.and_eq_true, List.all_eq_true] at h
 exact h.2 o ho
theorem tooLarge_len {t : List WishD} (h : tooLargeB t = false) : t.length ≤ 512 := by
 simp only [tooLargeB, Bool.or_eq_false_iff, decide_eq_false_iff_not] at h
 omega
def harmT (t : List WishD) (pick : List Int) : Int × Int := if validT t = 0 then (if choiceB t pick then (sumH t pick, 0) else (0, 1)) else (0, validT t)


end Go.Proofs.YtepcdhpikpmepaaGreat

/- Words for memory that is written: 'Keep X' (all blocks outside X are as they were), blocks that are known whole, appends. The lemmas on Reads, Blk and append are the ones that the guide's page of words gives to be copied. -/
namespace Go.Proofs.YtepcdhpikpmepaaGreat
open Go.RowKit

theorem block_of_add (a : Addr) (n : Nat) : (a.add n).block = a.block := by unfold Addr.add; split <;> rfl
theorem add_of_add (a : Addr) (i j : Nat) : (a.add i).add j = a.add (i + j) := by
 unfold Addr.add
 by_cases hi : i = 0 <;> by_cases hj : j = 0 <;> simp [hi, hj, Nat.add_assoc]

def Reads (w : World) (B size : Nat) (A : Option Addr) (n : Nat) (xs : List Value) : Prop :=
 xs.length = n * size ∧ (0 < n → ∃ ad, A = some ad ∧ ad.block < B ∧ ∀ j u, xs[j]? = some u → w.cell? (ad.add j) = some u)

section
variable {w w' : World} {B B' size n : Nat} {A : Option Addr} {xs : List Value}
theorem Reads.none_ : Reads w B size A 0 [] := ⟨by simp, fun h => absurd h (by omega)⟩
theorem Reads.at_ {k : Nat} (h : Reads w B 1 A n xs) (hk : k < n) : ∃ ad u, A = some ad ∧ ad.block < B ∧ xs[k]? = some u ∧ w.cell? (ad.add k) = some u := by
 obtain ⟨ad, e, hb, hc⟩ := h.2 (by omega)
 have hl : k < xs.length := by have := h.1; omega
 exact ⟨ad, xs[k], e, hb, List.getElem?_eq_getElem hl, hc k _ (List.getElem?_eq_getElem hl)⟩
theorem Reads.keep (h : Reads w B size A n xs) (hk : ∀ p : Addr, p.block < B → w'.cell? p = w.cell? p) : Reads w' B size A n xs :=
 ⟨h.1, fun hn => by
  obtain ⟨ad, e, hb, hc⟩ := h.2 hn
  exact ⟨ad, e, hb, fun j u hu => (hk _ (by rw [block_of_add]; exact hb)).trans (hc j u hu)⟩⟩
theorem Reads.more (h : Reads w B size A n xs) (hB : B ≤ B') : Reads w B' size A n xs :=
 ⟨h.1, fun hn => by
  obtain ⟨ad, e, hb, hc⟩ := h.2 hn
  exact ⟨ad, e, by omega, hc⟩⟩
theorem Reads.below (h : Reads w B size A n xs) (hb : Below B w w') : Reads w' B size A n xs := h.keep fun _ hp => hb.cell hp
theorem Reads.drew (h : Reads w B size A n xs) : Reads w.drew B size A n xs := h
theorem Reads.drewN (h : Reads w B size A n xs) (k : Nat) : Reads (w.drewN k) B size A n xs := h
theorem Reads.alloc (h : Reads w B size A n xs) (hB : B ≤ w.heap.size) (o : Obj) : Reads (w.alloc o) B size A n xs := h.keep fun p hp => World.cell?_alloc_lt w o p (by omega)
theorem Reads.setCell (h : Reads w B size A n xs) {p : Addr} (hB : B ≤ p.block) (u : Value) : Reads (w.setCell p u) B size A n xs :=
 h.keep fun q hq => World.cell?_setCell_other w p q u (fun e => by subst e; omega)
theorem Reads.grown (h : Reads w B size A n xs) {row : Option Nat} (hg : w.grownBy w' row) (hB : B ≤ w.heap.size) (hr : ∀ g, row = some g → B ≤ g) : Reads w' B size A n xs :=
 h.keep fun p hp => World.cell?_of_block (hg.block p.block (by omega) (fun e => by have := hr _ e.symm; omega))
theorem Reads.cut (h : Reads w B size A n xs) {k cap : Nat} (hk : k ≤ n) (hc : n ≤ cap) :
  Reads w B size (if cap = k then A else A.map (·.add (k * size))) (n - k) (xs.drop (k * size)) := by
 refine ⟨by rw [List.length_drop, h.1, Nat.sub_mul], fun hn => ?_⟩
 obtain ⟨ad, rfl, hb, hcell⟩ := h.2 (by omega)
 rw [if_neg (by omega)]
 refine ⟨ad.add (k * size), rfl, by rw [block_of_add]; exact hb, fun j u hu => ?_⟩
 rw [add_of_add]
 exact hcell _ u (by rw [← hu, List.getElem?_drop])
theorem Reads.of_own {base : Nat} {e : TypeId} {c : Nat} (h : w.ownsRow base e size (.slice A n c) n xs) : Reads w w.heap.size size A n xs := by
 refine ⟨h.1, fun hn => ?_⟩
 obtain ⟨g, cap, hv, _, hlt⟩ := h.form hn
 have hA : A = some ⟨g, 0, none⟩ := by injection hv
 subst hA
 exact ⟨_, rfl, hlt, h.cells (g := g) rfl⟩
end

def Blk (w : World) (g : Nat) (t : TypeId) (cs : Array Value) : Prop := w.heap[g]? = some (.cells cs t (0, 0))

section
variable {w w' : World} {g : Nat} {t : TypeId} {cs : Array Value}
theorem Blk.lt (h : Blk w g t cs) : g < w.heap.size := by
 rcases Nat.lt_or_ge g w.heap.size with hlt | hge
 ·exact hlt
 ·unfold Blk at h; rw [Array.getElem?_eq_none hge] at h; cases h
theorem Blk.cell (h : Blk w g t cs) (i : Nat) : w.cell? ⟨g, i, none⟩ = cs[i]? := cell_of_row w g i cs t (0, 0) h
theorem Blk.frozen (h : Blk w g t cs) (i : Nat) : w.frozen? ⟨g, i, none⟩ = false := by
 unfold Blk at h
 simp [World.frozen?, h]
theorem Blk.new (w : World) (t : TypeId) (cs : Array Value) : Blk (w.alloc (.cells cs t)) w.heap.size t cs := heap_alloc_new w _
theorem Blk.drew (h : Blk w g t cs) : Blk w.drew g t cs := h
theorem Blk.drewN (h : Blk w g t cs) (n : Nat) : Blk (w.drewN n) g t cs := h
theorem Blk.alloc (h : Blk w g t cs) (o : Obj) : Blk (w.alloc o) g t cs := (Below.heap_alloc w o g h.lt).trans h
theorem Blk.set_ (h : Blk w g t cs) (i : Nat) (u : Value) : Blk (w.setCell ⟨g, i, none⟩ u) g t (cs.setIfInBounds i u) := by
 unfold Blk at h ⊢
 simp [World.setCell, Array.getElem?_modify, h]
theorem Blk.far (h : Blk w g t cs) {p : Addr} (hp : g ≠ p.block) (u : Value) : Blk (w.setCell p u) g t cs := (Below.heap_setCell w p u g hp).trans h
theorem Blk.below {B : Nat} (h : Blk w g t cs) (hb : Below B w w') (hg : g < B) : Blk w' g t cs := (hb.block g hg).trans h
theorem Blk.grown {row : Option Nat} (h : Blk w g t cs) (hb : w.grownBy w' row) (hg : some g ≠ row) : Blk w' g t cs := (hb.block g h.lt hg).trans h
theorem Blk.ne_ {g' : Nat} {t' : TypeId} {cs' : Array Value} (h : Blk w g t cs) (h' : Blk w g' t' cs') (hne : t ≠ t') : g ≠ g' := by
 rintro rfl
 unfold Blk at h h'
 rw [h] at h'
 injection h' with h'
 injection h' with _ ht
 exact hne ht
theorem own_blk_ne {base : Nat} {e : TypeId} {size n : Nat} {v : Value} {xs : List Value} (h : w.ownsRow base e size v n xs) (hg : Blk w g t cs) (hne : e ≠ t) : v.ownBlock ≠ some g := by
 rcases h.2 with ⟨rfl, _⟩ | ⟨g', cap, cur, rfl, _, hh, _⟩
 ·simp [Value.ownBlock]
 ·intro he
  have : g' = g := by simpa [Value.ownBlock] using he
  subst this
  exact Blk.ne_ (t := e) hh hg hne rfl
end

section
variable {P : Program} (w : World)

theorem run_append_of_nil (base : Nat) (t ty e : TypeId) (i : TypeInfo) (size : Nat) (ht : P.underlying t = some (.slice e)) (hi : P.info? e = some i)
  (v : Value) (n : Nat) (xs : List Value) (hown : w.ownsRow base e size v n xs) (c : Nat) : (Builtin.append_ #[t, t] ty #[v, .slice none 0 c]).run P w = .ok v w := by
 rcases hown.2 with ⟨rfl, rfl⟩ | ⟨g, cap, cur, rfl, _, _, hnc, _⟩
 ·simp [Builtin.append_, run_underlying ht, sizeOf, typeInfo, hi, Builtin.lenOf, Builtin.firstCells]
 ·simp [Builtin.append_, run_underlying ht, sizeOf, typeInfo, hi, Builtin.lenOf, Builtin.firstCells, hnc, storeCells]

theorem run_append_any (base : Nat) (t ty e : TypeId) (i : TypeInfo) (z : Value) (size bytes : Nat) (ht : P.underlying t = some (.slice e)) (hi : P.info? e = some i) (hz : i.zero = some z)
  (hsize : i.size = size) (hby : i.bytes = bytes) (hzs : z.cells.size = size) (hsz : 0 < size)
  (v : Value) (n : Nat) (xs : List Value) (hown : w.ownsRow base e size v n xs)
  (B : Nat) (A : Option Addr) (m c : Nat) (news : List Value) (hr : Reads w B size A m news) (h1 : ∀ u ∈ news, u.oneCell' = true)
  (h63 : n + m ≤ maxLen) (hbytes : (n + m) * bytes ≤ 140737488355328) (hbase : base ≤ w.heap.size) :
  ∃ v' w', (Builtin.append_ #[t, t] ty #[v, .slice A m c]).run P w = .ok v' w' ∧ w'.ownsRow base e size v' (n + m) (xs ++ news) ∧ w.grownBy w' v.ownBlock ∧
   (v'.ownBlock = v.ownBlock ∨ v'.ownBlock = some w.heap.size) := by
 rcases A with _ | ad
 ·have hm : m = 0 := by
   rcases Nat.eq_zero_or_pos m with h0 | h0
   ·exact h0
   ·obtain ⟨ad, h, _⟩ := hr.2 h0
    cases h
  subst hm
  have hn : news = [] := List.eq_nil_of_length_eq_zero (by simpa using hr.1)
  subst hn
  exact ⟨v, w, run_append_of_nil w base t ty e i size ht hi v n xs hown c, by simpa using hown, World.grownBy.refl w _, .inl rfl⟩
 ·have hcells : ∀ j u, news[j]? = some u → w.cell? (ad.add j) = some u := by
   intro j u hu
   rcases Nat.eq_zero_or_pos m with h0 | h0
   ·subst h0
    have hn : news = [] := List.eq_nil_of_length_eq_zero (by simpa using hr.1)
    subst hn
    simp at hu
   ·obtain ⟨ad', h, _, hc⟩ := hr.2 h0
    injection h with h
    subst h
    exact hc j u hu
  obtain ⟨v', w', hrun, h2, h3, _, h5⟩ := run_append_own_at (P := P) w base t ty e i z size bytes ht hi hz hsize hby hzs hsz v n xs hown ad m c news hr.1 hcells h1 h63 hbytes hbase
  exact ⟨v', w', hrun, h2, h3, h5⟩

theorem wp_append_any {o : Oper} {a : Act} {K : Act → World → Prop} {Q : Exit → Act → World → Prop} (s x : Operand) (t : TypeId)
  (ho : o.op = .call { callee := .builtin .append, args := #[s, x], argTypes := #[t, t] })
  (base : Nat) (e : TypeId) (i : TypeInfo) (z : Value) (size bytes : Nat) (ht : P.underlying t = some (.slice e)) (hi : P.info? e = some i) (hz : i.zero = some z)
  (hsize : i.size = size) (hby : i.bytes = bytes) (hzs : z.cells.size = size) (hsz : 0 < size)
  (v : Value) (n : Nat) (xs : List Value) (hs : a.eval s = v) (hown : w.ownsRow base e size v n xs)
  (B : Nat) (A : Option Addr) (m c : Nat) (news : List Value) (hx : a.eval x = .slice A m c) (hr : Reads w B size A m news) (h1 : ∀ u ∈ news, u.oneCell' = true)
  (h63 : n + m ≤ maxLen) (hbytes : (n + m) * bytes ≤ 140737488355328) (hbase : base ≤ w.heap.size)
  (h : ∀ v' w', w'.ownsRow base e size v' (n + m) (xs ++ news) → w.grownBy w' v.ownBlock → (v'.ownBlock = v.ownBlock ∨ v'.ownBlock = some w.heap.size) → K (a.put o.dst v') w') : o.wp P a w K Q := by
 obtain ⟨v', w', hrun, h2, h3, h4⟩ := run_append_any (P := P) w base t o.type e i z size bytes ht hi hz hsize hby hzs hsz v n xs hown B A m c news hr h1 h63 hbytes hbase
 unfold Oper.wp execOp
 simp only [ho, resolve, invoke, builtin, Sem.run_bind, Sem.run_pure, Result.andThen_ok, List.map_toArray, List.map_cons, List.map_nil, hs, hx, hrun]
 exact h v' w' h2 h3 h4

theorem wpList_append_any {ops : Array Oper} {rest : List Oper} {o : Oper} {a : Act} {Q : Exit → Act → World → Prop} (hgd : o.guard = none) (s x : Operand) (t : TypeId)
  (ho : o.op = .call { callee := .builtin .append, args := #[s, x], argTypes := #[t, t] })
  (base : Nat) (e : TypeId) (i : TypeInfo) (z : Value) (size bytes : Nat) (ht : P.underlying t = some (.slice e)) (hi : P.info? e = some i) (hz : i.zero = some z)
  (hsize : i.size = size) (hby : i.bytes = bytes) (hzs : z.cells.size = size) (hsz : 0 < size)
  (v : Value) (n : Nat) (xs : List Value) (hs : a.eval s = v) (hown : w.ownsRow base e size v n xs)
  (B : Nat) (A : Option Addr) (m c : Nat) (news : List Value) (hx : a.eval x = .slice A m c) (hr : Reads w B size A m news) (h1 : ∀ u ∈ news, u.oneCell' = true)
  (h63 : n + m ≤ maxLen) (hbytes : (n + m) * bytes ≤ 140737488355328) (hbase : base ≤ w.heap.size)
  (h : ∀ v' w', w'.ownsRow base e size v' (n + m) (xs ++ news) → w.grownBy w' v.ownBlock → (v'.ownBlock = v.ownBlock ∨ v'.ownBlock = some w.heap.size) → wpList P ops Q rest (a.put o.dst v') w') : wpList P ops Q (o :: rest) a w :=
 wpList_plain hgd fun _ hK => wp_append_any w s x t ho base e i z size bytes ht hi hz hsize hby hzs hsz v n xs hs hown B A m c news hx hr h1 h63 hbytes hbase fun v' w' h2 h3 h4 => hK _ _ (h v' w' h2 h3 h4)

theorem step_append_any {ops : Array Oper} {o : Oper} {a : Act} {K : Act → World → Prop} {Q : Exit → Act → World → Prop} {E : Prop} (hgd : o.guard = none) (s x : Operand) (t : TypeId)
  (ho : o.op = .call { callee := .builtin .append, args := #[s, x], argTypes := #[t, t] })
  (base : Nat) (e : TypeId) (i : TypeInfo) (z : Value) (size bytes : Nat) (ht : P.underlying t = some (.slice e)) (hi : P.info? e = some i) (hz : i.zero = some z)
  (hsize : i.size = size) (hby : i.bytes = bytes) (hzs : z.cells.size = size) (hsz : 0 < size)
  (v : Value) (n : Nat) (xs : List Value) (hs : a.eval s = v) (hown : w.ownsRow base e size v n xs)
  (B : Nat) (A : Option Addr) (m c : Nat) (news : List Value) (hx : a.eval x = .slice A m c) (hr : Reads w B size A m news) (h1 : ∀ u ∈ news, u.oneCell' = true)
  (h63 : n + m ≤ maxLen) (hbytes : (n + m) * bytes ≤ 140737488355328) (hbase : base ≤ w.heap.size)
  (h : ∀ v' w', w'.ownsRow base e size v' (n + m) (xs ++ news) → w.grownBy w' v.ownBlock → (v'.ownBlock = v.ownBlock ∨ v'.ownBlock = some w.heap.size) → K (a.put o.dst v') w') :
  if Region.wanted o (yielded ops a.tmps) = true then Oper.wp P o a w K Q else E := by
 have hw : Region.wanted o (yielded ops a.tmps) = true := by simp [Region.wanted, hgd]
 rw [if_pos hw]
 exact wp_append_any w s x t ho base e i z size bytes ht hi hz hsize hby hzs hsz v n xs hs hown B A m c news hx hr h1 h63 hbytes hbase h
end

/-! ### Keep -/
structure Keep (X : Nat → Prop) (w w' : World) : Prop where
 os : w'.os = w.os
 tape : w'.tape = w.tape
 output : w'.output = w.output
 size : w.heap.size ≤ w'.heap.size
 block : ∀ k, k < w.heap.size → ¬ X k → w'.heap[k]? = w.heap[k]?
section
variable {X Y : Nat → Prop} {a b c w w' : World}
theorem Keep.refl (X : Nat → Prop) (w : World) : Keep X w w := ⟨rfl, rfl, rfl, Nat.le_refl _, fun _ _ _ => rfl⟩
theorem Keep.trans (h : Keep X a b) (k : Keep X b c) : Keep X a c :=
 ⟨k.os.trans h.os, k.tape.trans h.tape, k.output.trans h.output, Nat.le_trans h.size k.size, fun i hi hx => (k.block i (Nat.lt_of_lt_of_le hi h.size) hx).trans (h.block i hi hx)⟩
theorem Keep.trans' (h : Keep X a b) (k : Keep Y b c) (hY : ∀ i, i < a.heap.size → Y i → X i) : Keep X a c :=
 ⟨k.os.trans h.os, k.tape.trans h.tape, k.output.trans h.output, Nat.le_trans h.size k.size, fun i hi hx => (k.block i (Nat.lt_of_lt_of_le hi h.size) (fun hy => hx (hY i hi hy))).trans (h.block i hi hx)⟩
theorem Keep.mono (h : Keep X a b) (hXY : ∀ i, i < a.heap.size → X i → Y i) : Keep Y a b := ⟨h.os, h.tape, h.output, h.size, fun i hi hy => h.block i hi (fun hx => hy (hXY i hi hx))⟩
theorem Keep.of_ext (h : Ext a b) : Keep X a b := by
 have h' : Below a.heap.size a b := h
 exact ⟨h'.os, h'.tape, h'.output, h'.size, fun i hi _ => h'.block i hi⟩
theorem Keep.ext (h : Keep X a b) (hX : ∀ i, i < a.heap.size → ¬ X i) : Ext a b := show Below a.heap.size a b from ⟨h.os, h.tape, h.output, h.size, fun i hi => h.block i hi (hX i hi)⟩
theorem Keep.alloc (h : Keep X a w) (o : Obj) : Keep X a (w.alloc o) := h.trans (Keep.of_ext ((Ext.refl w).alloc o))
theorem Keep.drew (h : Keep X a w) : Keep X a w.drew := ⟨h.os, h.tape, h.output, h.size, h.block⟩
theorem Keep.drewN (h : Keep X a w) (n : Nat) : Keep X a (w.drewN n) := ⟨h.os, h.tape, h.output, h.size, h.block⟩
theorem Keep.setCell (h : Keep X a w) {p : Addr} (hp : X p.block ∨ a.heap.size ≤ p.block) (u : Value) : Keep X a (w.setCell p u) :=
 ⟨h.os, h.tape, h.output, by simpa [World.setCell] using h.size, fun i hi hx => (Below.heap_setCell w p u i (by
  rintro rfl
  rcases hp with hp | hp
  ·exact hx hp
  ·omega)).trans (h.block i hi hx)⟩
theorem Keep.grown {row : Option Nat} (h : Keep X a w) (hg : w.grownBy w' row) (hr : ∀ g, row = some g → X g ∨ a.heap.size ≤ g) : Keep X a w' :=
 ⟨hg.os.trans h.os, hg.tape.trans h.tape, hg.output.trans h.output, Nat.le_trans h.size hg.size, fun i hi hx => (hg.block i (Nat.lt_of_lt_of_le hi h.size) (fun e => by
  rcases hr i e.symm with h1 | h1
  ·exact hx h1
  ·omega)).trans (h.block i hi hx)⟩
theorem Keep.blk {g : Nat} {t : TypeId} {cs : Array Value} (h : Keep X a b) (hb : Blk a g t cs) (hX : ¬ X g) : Blk b g t cs := (h.block g hb.lt hX).trans hb
theorem Keep.owns {base : Nat} {e : TypeId} {size n : Nat} {v : Value} {xs : List Value} (h : Keep X a b) (ho : a.ownsRow base e size v n xs) (hX : ∀ g, v.ownBlock = some g → ¬ X g) : b.ownsRow base e size v n xs := by
 refine ⟨ho.1, ?_⟩
 rcases ho.2 with h1 | ⟨g, cap, cur, rfl, hb, hg, rest⟩
 ·exact Or.inl h1
 ·exact Or.inr ⟨g, cap, cur, rfl, hb, (h.block g (Array.getElem?_eq_some_iff.1 hg).1 (hX g rfl)).trans hg, rest⟩
theorem Keep.cell (h : Keep X a b) {p : Addr} {v : Value} (hp : a.cell? p = some v) (hX : ¬ X p.block) : b.cell? p = some v :=
 (World.cell?_of_block (w := a) (h.block p.block (World.block_lt_of_cell? _ _ hp) hX)).trans hp
end

end Go.Proofs.YtepcdhpikpmepaaGreat

/- Walks of package plan: add; slices.Clone at integers. -/
namespace Go.Proofs.YtepcdhpikpmepaaGreat
open Go.RowKit

theorem node_info : (Tryz.prog.info? 123).map (fun i => (i.zero, i.size, i.bytes)) = some (some (.agg #[.int .i64 0, .slice none 0 0, .int .i64 0, .int .i64 0]), 4, 48) := by kernel_rfl

theorem owns_form {w : World} {base : Nat} {e : TypeId} {size n : Nat} {v : Value} {xs : List Value} (h : w.ownsRow base e size v n xs) : ∃ A c, v = .slice A n c := by
 rcases h.2 with ⟨rfl, rfl⟩ | ⟨g, cap, cur, rfl, _⟩
 ·exact ⟨_, _, rfl⟩
 ·exact ⟨_, _, rfl⟩
theorem reads_last (w : World) (cs : Array Value) (t : TypeId) (size m g B : Nat) (hg : g = w.heap.size) (hB : g < B) (hs : cs.size = m * size) : Reads (w.alloc (.cells cs t)) B size (some ⟨g, 0, none⟩) m cs.toList := by
 subst hg
 refine ⟨by simpa using hs, fun _ => ⟨_, rfl, hB, fun j u hu => ?_⟩⟩
 have : (⟨w.heap.size, 0, none⟩ : Addr).add j = ⟨w.heap.size, j, none⟩ := by unfold Addr.add; split <;> simp_all
 rw [this, World.cell?_alloc_new]
 simpa using hu

set_option maxHeartbeats 1600000 in
theorem add_calls (S : Nat) (f0 f1 f2 f3 nv f5 f6 : Value) (wish clA clB : Int) (n : Nat) (xs : List Value) (base : Nat) (w : World)
  (hS : Blk w S 74 #[f0, f1, f2, f3, nv, f5, f6]) (hown : w.ownsRow base 123 4 nv n xs) (hbase : base ≤ w.heap.size) (hn : n < 65536) :
  Calls Tryz.prog 40 #[.pointer (some ⟨S, 0, none⟩), .agg #[.int .i64 wish, .slice none 0 0, .int .i64 clA, .int .i64 clB]] w fun e w' =>
   ∃ nv', e = .returned (.int .i64 n) ∧ Blk w' S 74 #[f0, f1, f2, f3, nv', f5, f6] ∧ w'.ownsRow base 123 4 nv' (n + 1) (xs ++ [.int .i64 wish, .slice none 0 0, .int .i64 clA, .int .i64 clB]) ∧
    Keep (fun k => k = S ∨ nv.ownBlock = some k) w w' ∧ (nv'.ownBlock = nv.ownBlock ∨ ∃ g, nv'.ownBlock = some g ∧ w.heap.size ≤ g) := by
 obtain ⟨i0, hi0, hz0, hz1, hz2⟩ := info_parts node_info
 obtain ⟨A, c, rfl⟩ := owns_form hown
 have hb : ((n : Int) == 65536) = false := by rw [beq_eq_false_iff_ne]; omega
 have c4 : w.cell? ⟨S, 4, none⟩ = some (.slice A n c) := hS.cell 4
 have fr4 : w.frozen? ⟨S, 4, none⟩ = false := hS.frozen 4
 have hlt := hS.lt
 have hne := own_blk_ne hown hS (by decide)
 have hne' := Lib.hid hne
 go_enter Tryz.func40, Tryz.ntmps40
 go_wp2_with fail
 have h1 : ∀ u ∈ [Value.int .i64 wish, .slice none 0 0, .int .i64 clA, .int .i64 clB], u.oneCell' = true := by intro u hu; simp at hu; rcases hu with rfl | rfl | rfl | rfl <;> rfl
 have h63 : n + 1 ≤ maxLen := by unfold maxLen; omega
 have hby : (n + 1) * 48 ≤ 140737488355328 := by omega
 have h1' := Lib.hid h1
 clear h1
 go_region_law (refine step_append_any _ rfl (.tmp 17) (.tmp 19) _ rfl base 123 i0 _ 4 48 Tryz.underlying34 hi0 hz0 hz1 hz2 rfl (by decide) (.slice A n c) n xs rfl ((hown.alloc _).alloc _) (w.heap.size + 2) (some ⟨w.heap.size + 1, 0, none⟩) 1 1 [.int .i64 wish, .slice none 0 0, .int .i64 clA, .int .i64 clB] rfl (reads_last _ #[_, _, _, _] _ 4 1 _ _ (by simp) (by omega) rfl) h1'.out h63 hby (by simp; omega) ?_; intro v' w' hown' hg hat; obtain ⟨A', c', rfl⟩ := owns_form hown'; have hS' := (((hS.alloc _).alloc _).drew).grown hg hne'.out.symm; have c4' : w'.cell? ⟨S, 4, none⟩ = some (.slice A n c) := hS'.cell 4; have fr4' : w'.frozen? ⟨S, 4, none⟩ = false := hS'.frozen 4)
 all_goals
  have hK1 : Keep (fun k => k = S ∨ Value.ownBlock (.slice A n c) = some k) w w' := ((((Keep.refl _ _).alloc _).alloc _).drew).grown hg (fun g e => Or.inl (Or.inr e))
  have hS2 := hS'.set_ 4 (.slice A' (n + 1) c')
  have own2 : (w'.setCell ⟨S, 4, none⟩ (.slice A' (n + 1) c')).ownsRow base 123 4 (.slice A' (n + 1) c') (n + 1) (xs ++ [.int .i64 wish, .slice none 0 0, .int .i64 clA, .int .i64 clB]) := by
   have hn' := own_blk_ne hown' hS' (by decide)
   exact (Keep.setCell (X := fun k => k = S) (Keep.refl _ _) (Or.inl rfl) _).owns hown' (fun g e h => hn' (by rw [e, h]))
  have hK2 : Keep (fun k => k = S ∨ Value.ownBlock (.slice A n c) = some k) w (w'.setCell ⟨S, 4, none⟩ (.slice A' (n + 1) c')) := hK1.setCell (Or.inl (Or.inl rfl)) _
  have c5 : (w'.setCell ⟨S, 4, none⟩ (.slice A' (n + 1) c')).cell? ⟨S, 4, none⟩ = some (.slice A' (n + 1) c') := hS2.cell 4
  have hat' : Hid (Value.ownBlock (.slice A' (n + 1) c') = Value.ownBlock (.slice A n c) ∨ ∃ g, Value.ownBlock (.slice A' (n + 1) c') = some g ∧ w.heap.size ≤ g) := by
   rcases hat with h | h
   ·exact Or.inl h
   ·exact Or.inr ⟨_, h, by simp; omega⟩
  clear hat hown' hg hS' c4' fr4' hown hS c4 fr4 hK1
  go_wp2
  go_ret
  refine ⟨_, ?_, hS2, own2, hK2, hat'.out⟩
  simp


theorem int_info : (Tryz.prog.info? 3).map (fun i => (i.zero, i.size, i.bytes)) = some (some (.int .i64 0), 1, 8) := by kernel_rfl
theorem Ints.reads {w : World} {a : Option Addr} {c : Nat} {l : List Int} (h : Ints w (.slice a l.length c) l) : Reads w w.heap.size 1 a l.length (l.map (Value.int .i64)) := by
 refine ⟨by simp, fun h0 => ?_⟩
 obtain ⟨_, _, e, _, _, h⟩ := h
 cases e
 obtain ⟨b, off, rfl, hb, hc⟩ := h h0
 refine ⟨_, rfl, hb, fun j u hu => ?_⟩
 have hj : j < l.length := by simpa using (List.getElem?_eq_some_iff.1 hu).1
 have := hc j hj 0 (by omega)
 have e : (⟨b, off, none⟩ : Addr).add j = ⟨b, off + j * 1 + 0, none⟩ := by unfold Addr.add; split <;> simp_all
 rw [e, this]
 simp [hj] at hu ⊢
 exact hu
theorem ints_of_owns {w : World} {base : Nat} {v : Value} {l : List Int} (h : w.ownsRow base 3 1 v l.length (l.map (Value.int .i64))) : Ints w v l := by
 rcases h.2 with ⟨rfl, h0⟩ | ⟨g, cap, cur, rfl, hb, hg, hn, hcap, hcs, htake⟩
 ·exact ⟨none, 0, by rw [h0], by omega, by unfold maxLen; omega, fun hp => by omega⟩
 ·refine ⟨_, _, rfl, hn, hcap, fun hp => ⟨g, 0, rfl, (Array.getElem?_eq_some_iff.1 hg).1, fun i hi j hj => ?_⟩⟩
  obtain rfl : j = 0 := by omega
  have := h.cells (g := g) rfl i (.int .i64 (l[i]?.getD 0)) (by simp [hi])
  have e : (⟨g, 0, none⟩ : Addr).add i = ⟨g, 0 + i * 1 + 0, none⟩ := by unfold Addr.add; split <;> simp_all
  rw [← e]; exact this
set_option maxHeartbeats 800000 in
set_option maxRecDepth 100000 in
theorem clone_int_calls (va : Value) (l : List Int) (w : World) (h : Ints w va l) (hl : l.length * 8 ≤ 140737488355328) :
  Calls Tryz.prog 27 #[va] w fun e w' => ∃ v, e = .returned v ∧ w'.ownsRow w.heap.size 3 1 v l.length (l.map (Value.int .i64)) ∧ Ext w w' := by
 obtain ⟨i0, hi0, hz0, hz1, hz2⟩ := info_parts int_info
 obtain ⟨a, c, rfl, _, _, hat⟩ := h.open
 have hr := h.reads
 have hr' := Lib.hid hr
 have hlen := h.len
 clear hr h
 cases a with
 | none =>
  obtain rfl : l = [] := by
   cases l with
   | nil => rfl
   | cons x r => obtain ⟨b, off, y, e, _⟩ := hat 0 (by simp) w (Ext.refl _); cases e
  have heq := fun (W : World) => Lib.run_eql_slice_nil (P := Tryz.prog) W 31 3 none 0 c 0 0 Tryz.underlying31
  go_enter Tryz.func27, Tryz.ntmps27
  go_wp2
  go_ret
  exact ⟨_, rfl, World.ownsRow_nil _ _ _ _, Ext.refl _⟩
 | some ad =>
  have heq := fun (W : World) => Lib.run_eql_slice_nil (P := Tryz.prog) W 31 3 (some ad) l.length c 0 0 Tryz.underlying31
  have h1 : Hid (∀ u ∈ l.map (Value.int .i64), u.oneCell' = true) := by intro u hu; simp at hu; obtain ⟨x, _, rfl⟩ := hu; rfl
  have h63 : 0 + l.length ≤ maxLen := by unfold maxLen; omega
  have hby : (0 + l.length) * 8 ≤ 140737488355328 := by omega
  clear hat
  go_enter Tryz.func27, Tryz.ntmps27
  go_wp2_with (at_builtin; refine wpList_append_any _ rfl (.tmp 5) (.tmp 6) _ rfl w.heap.size 3 i0 _ 1 8 Tryz.underlying31 hi0 hz0 hz1 hz2 rfl (by decide) (.slice (some ⟨w.heap.size, 0, none⟩) 0 0) 0 [] rfl (World.ownsRow_made w #[] 0 (Nat.le_refl _) (by unfold maxLen; omega) rfl) w.heap.size (some ad) l.length c (l.map (Value.int .i64)) rfl (hr'.out.alloc (Nat.le_refl _) _) h1.out h63 hby (by simp) ?_; intro v1 w1 hown1 hg1 hat1)
  go_ret
  refine ⟨v1, rfl, by simpa using hown1, ?_⟩
  have hx : Ext w w1 := ((Ext.refl w).alloc _).grown hg1 (fun k hk => by simp [Value.ownBlock] at hk; omega)
  exact hx

end Go.Proofs.YtepcdhpikpmepaaGreat
