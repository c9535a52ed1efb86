/- Merged parts: PlanWalksE, PlanWalksF. -/
import Derived.Test.YtepcdhpikpmepaaGreatPBQ
/- Walk of package plan: clash. -/
namespace Go.Proofs.YtepcdhpikpmepaaGreat
open Go.RowKit

def WishIn (x : WishD) : Prop := Inc x.people ∧ ∀ o ∈ x.opts, Chain o.spans

set_option maxHeartbeats 1600000 in
theorem clash_calls (va vb : Value) (a b : WishD) (i k : Nat) (x y : OptD) (w : World) (ha : WishV w va a) (hb : WishV w vb b) (oa : WishIn a) (ob : WishIn b)
  (hx : a.opts[i]? = some x) (hy : b.opts[k]? = some y) :
  Calls Tryz.prog 68 #[va, vb, .int .i64 i, .int .i64 k] w fun e w' => e = .returned (.bool (clashB a b x y)) ∧ Ext w w' := by
 obtain ⟨pv1, ov1, rfl, hp1, ho1⟩ := ha
 obtain ⟨pv2, ov2, rfl, hp2, ho2⟩ := hb
 obtain ⟨pa1, pc1, rfl⟩ := hp1.form
 obtain ⟨pa2, pc2, rfl⟩ := hp2.form
 obtain ⟨oa1, oc1, rfl, _, _, hat1⟩ := ho1.open
 obtain ⟨oa2, oc2, rfl, _, _, hat2⟩ := ho2.open
 have li : i < a.opts.length := (List.getElem?_eq_some_iff.1 hx).1
 have lk : k < b.opts.length := (List.getElem?_eq_some_iff.1 hy).1
 have l1 := ho1.len
 have l2 := ho2.len
 have ix : Chain x.spans := oa.2 x (List.mem_of_getElem? hx)
 have iy : Chain y.spans := ob.2 y (List.mem_of_getElem? hy)
 go_enter Tryz.func68, Tryz.ntmps68
 go_wp2_with fail
 refine wp_abs (S := fun W => Ext w W ∧ W.cell? ⟨w.heap.size, 1, none⟩ = some (.slice pa1 a.people.length pc1) ∧ W.cell? ⟨w.heap.size, 2, none⟩ = some (.slice oa1 a.opts.length oc1) ∧
   W.cell? ⟨w.heap.size + 1, 1, none⟩ = some (.slice pa2 b.people.length pc2) ∧ W.cell? ⟨w.heap.size + 1, 2, none⟩ = some (.slice oa2 b.opts.length oc2))
  ⟨(by with_reducible repeat' (first | exact Ext.refl _ | assumption | refine Ext.drewN ?_ _ | refine Ext.drew ?_ | refine Ext.alloc ?_ _ | refine Ext.trans ?_ (by with_reducible assumption))), by simp, by simp, by simp, by simp⟩ ?_
 rintro W1 ⟨hx1, c1, c2, c3, c4⟩
 obtain ⟨b1, o1, x', sa1, sc1, rfl, hb1, _, ex, g1, g2, g3, gs⟩ := hat1 i li W1 hx1
 obtain ⟨b2, o2, y', sa2, sc2, rfl, hb2, _, ey, k1, k2, k3, ks⟩ := hat2 k lk W1 hx1
 obtain rfl : x = x' := Option.some.inj (hx.symm.trans ex.out)
 obtain rfl : y = y' := Option.some.inj (hy.symm.trans ey.out)
 have hB1 : w.heap.size < W1.heap.size := World.block_lt_of_cell? _ _ c1
 have hB2 : w.heap.size + 1 < W1.heap.size := World.block_lt_of_cell? _ _ c3
 have hcom : Hid (∀ W, Ext W1 W → Calls Tryz.prog 87 #[.slice pa1 a.people.length pc1, .slice pa2 b.people.length pc2] W fun e w' => e = .returned (.bool (shareB a.people b.people)) ∧ Ext W w') :=
  fun W hW => common_calls _ _ _ _ W ((hp1.ext hx1).ext hW) ((hp2.ext hx1).ext hW) oa.1 ob.1
 have hmeet : Hid (∀ W, Ext W1 W → Calls Tryz.prog 88 #[.slice sa1 x.spans.length sc1, .slice sa2 y.spans.length sc2] W fun e w' => e = .returned (.bool (meetB x.spans y.spans)) ∧ Ext W w') :=
  fun W hW => meet_calls _ _ _ _ W (gs.ext hW) (ks.ext hW) ix iy
 clear gs ks hp1 hp2 ho1 ho2 hat1 hat2 ix iy oa ob hx hy ex ey
 go_region
 ·go_step
  go_step
  refine wp_abs (S := fun V => Ext W1 V ∧ V.cell? ⟨W1.heap.size, 1, none⟩ = some (.int .i64 x.room) ∧ V.cell? ⟨W1.heap.size, 2, none⟩ = some (.slice sa1 x.spans.length sc1) ∧
    V.cell? ⟨W1.heap.size + 1, 1, none⟩ = some (.int .i64 y.room) ∧ V.cell? ⟨W1.heap.size + 1, 2, none⟩ = some (.slice sa2 y.spans.length sc2)) ⟨(by with_reducible repeat' (first | exact Ext.refl _ | assumption | refine Ext.drewN ?_ _ | refine Ext.drew ?_ | refine Ext.alloc ?_ _ | refine Ext.trans ?_ (by with_reducible assumption))), by simp, by simp, by simp, by simp⟩ ?_
  rintro V ⟨hxV, vx1, vx2, vy1, vy2⟩
  have d1 := hxV.cell c1
  have d2 := hxV.cell c3
  clear c1 c2 c3 c4 g1 g2 g3 k1 k2 k3
  have e1 : ∀ W, Ext V W → W.cell? ⟨W1.heap.size, 2, none⟩ = some (.slice sa1 x.spans.length sc1) := fun W h => h.cell vx2
  have e2 : ∀ W, Ext V W → W.cell? ⟨W1.heap.size + 1, 2, none⟩ = some (.slice sa2 y.spans.length sc2) := fun W h => h.cell vy2
  by_cases h1 : x.room = y.room
  ·have h1' : (x.room == y.room) = true := by rw [beq_iff_eq]; exact h1
   by_cases h2 : 0 ≤ x.room
   ·have R : Hid (meetB x.spans y.spans = clashB a b x y) := by show _ = _; unfold clashB; rw [decide_eq_true h1, decide_eq_true h2]; rfl
    clear h1 e1 e2
    go_wp2_with fail
    refine (hmeet.out _ hxV).mono ?_
    rintro e w2 ⟨rfl, hx2⟩
    rw [R.out]
    go_wp2
    go_ret
    exact ⟨rfl, (hx1.trans hxV).trans hx2⟩
   ·cases hs : shareB a.people b.people with
    | true =>
     have R : Hid (meetB x.spans y.spans = clashB a b x y) := by show _ = _; simp [clashB, hs]
     rw [hs] at hcom
     clear h1 hs
     go_wp2_with fail
     refine (hcom.out _ hxV).mono ?_
     rintro e w2 ⟨rfl, hx2⟩
     have f1 := e1 w2 hx2
     have f2 := e2 w2 hx2
     clear e1 e2
     go_wp2_with fail
     refine (hmeet.out _ (hxV.trans hx2)).mono ?_
     rintro e w3 ⟨rfl, hx3⟩
     rw [R.out]
     go_wp2
     go_ret
     exact ⟨rfl, ((hx1.trans hxV).trans hx2).trans hx3⟩
    | false =>
     have R : Hid (clashB a b x y = false) := by show _ = _; simp [clashB, hs, h2]
     rw [hs] at hcom
     clear h1 hs e1 e2
     go_wp2_with fail
     refine (hcom.out _ hxV).mono ?_
     rintro e w2 ⟨rfl, hx2⟩
     go_wp2
     go_ret
     rw [R.out]
     exact ⟨rfl, (hx1.trans hxV).trans hx2⟩
  ·have h1' : (x.room == y.room) = false := by rw [beq_eq_false_iff_ne]; exact h1
   cases hs : shareB a.people b.people with
   | true =>
    have R : Hid (meetB x.spans y.spans = clashB a b x y) := by show _ = _; simp [clashB, hs]
    rw [hs] at hcom
    clear h1 hs
    go_wp2_with fail
    refine (hcom.out _ hxV).mono ?_
    rintro e w2 ⟨rfl, hx2⟩
    have f1 := e1 w2 hx2
    have f2 := e2 w2 hx2
    clear e1 e2
    go_wp2_with fail
    refine (hmeet.out _ (hxV.trans hx2)).mono ?_
    rintro e w3 ⟨rfl, hx3⟩
    rw [R.out]
    go_wp2
    go_ret
    exact ⟨rfl, ((hx1.trans hxV).trans hx2).trans hx3⟩
   | false =>
    have R : Hid (clashB a b x y = false) := by show _ = _; simp [clashB, hs, h1]
    rw [hs] at hcom
    clear h1 hs e1 e2
    go_wp2_with fail
    refine (hcom.out _ hxV).mono ?_
    rintro e w2 ⟨rfl, hx2⟩
    go_wp2
    go_ret
    rw [R.out]
    exact ⟨rfl, (hx1.trans hxV).trans hx2⟩
 ·go_step
  go_step
  refine wp_abs (S := fun V => Ext W1 V ∧ V.cell? ⟨W1.heap.size + 1, 1, none⟩ = some (.int .i64 x.room) ∧ V.cell? ⟨W1.heap.size + 1, 2, none⟩ = some (.slice sa1 x.spans.length sc1) ∧
    V.cell? ⟨W1.heap.size, 1, none⟩ = some (.int .i64 y.room) ∧ V.cell? ⟨W1.heap.size, 2, none⟩ = some (.slice sa2 y.spans.length sc2)) ⟨(by with_reducible repeat' (first | exact Ext.refl _ | assumption | refine Ext.drewN ?_ _ | refine Ext.drew ?_ | refine Ext.alloc ?_ _ | refine Ext.trans ?_ (by with_reducible assumption))), by simp, by simp, by simp, by simp⟩ ?_
  rintro V ⟨hxV, vx1, vx2, vy1, vy2⟩
  have d1 := hxV.cell c1
  have d2 := hxV.cell c3
  clear c1 c2 c3 c4 g1 g2 g3 k1 k2 k3
  have e1 : ∀ W, Ext V W → W.cell? ⟨W1.heap.size + 1, 2, none⟩ = some (.slice sa1 x.spans.length sc1) := fun W h => h.cell vx2
  have e2 : ∀ W, Ext V W → W.cell? ⟨W1.heap.size, 2, none⟩ = some (.slice sa2 y.spans.length sc2) := fun W h => h.cell vy2
  by_cases h1 : x.room = y.room
  ·have h1' : (x.room == y.room) = true := by rw [beq_iff_eq]; exact h1
   by_cases h2 : 0 ≤ x.room
   ·have R : Hid (meetB x.spans y.spans = clashB a b x y) := by show _ = _; unfold clashB; rw [decide_eq_true h1, decide_eq_true h2]; rfl
    clear h1 e1 e2
    go_wp2_with fail
    refine (hmeet.out _ hxV).mono ?_
    rintro e w2 ⟨rfl, hx2⟩
    rw [R.out]
    go_wp2
    go_ret
    exact ⟨rfl, (hx1.trans hxV).trans hx2⟩
   ·cases hs : shareB a.people b.people with
    | true =>
     have R : Hid (meetB x.spans y.spans = clashB a b x y) := by show _ = _; simp [clashB, hs]
     rw [hs] at hcom
     clear h1 hs
     go_wp2_with fail
     refine (hcom.out _ hxV).mono ?_
     rintro e w2 ⟨rfl, hx2⟩
     have f1 := e1 w2 hx2
     have f2 := e2 w2 hx2
     clear e1 e2
     go_wp2_with fail
     refine (hmeet.out _ (hxV.trans hx2)).mono ?_
     rintro e w3 ⟨rfl, hx3⟩
     rw [R.out]
     go_wp2
     go_ret
     exact ⟨rfl, ((hx1.trans hxV).trans hx2).trans hx3⟩
    | false =>
     have R : Hid (clashB a b x y = false) := by show _ = _; simp [clashB, hs, h2]
     rw [hs] at hcom
     clear h1 hs e1 e2
     go_wp2_with fail
     refine (hcom.out _ hxV).mono ?_
     rintro e w2 ⟨rfl, hx2⟩
     go_wp2
     go_ret
     rw [R.out]
     exact ⟨rfl, (hx1.trans hxV).trans hx2⟩
  ·have h1' : (x.room == y.room) = false := by rw [beq_eq_false_iff_ne]; exact h1
   cases hs : shareB a.people b.people with
   | true =>
    have R : Hid (meetB x.spans y.spans = clashB a b x y) := by show _ = _; simp [clashB, hs]
    rw [hs] at hcom
    clear h1 hs
    go_wp2_with fail
    refine (hcom.out _ hxV).mono ?_
    rintro e w2 ⟨rfl, hx2⟩
    have f1 := e1 w2 hx2
    have f2 := e2 w2 hx2
    clear e1 e2
    go_wp2_with fail
    refine (hmeet.out _ (hxV.trans hx2)).mono ?_
    rintro e w3 ⟨rfl, hx3⟩
    rw [R.out]
    go_wp2
    go_ret
    exact ⟨rfl, ((hx1.trans hxV).trans hx2).trans hx3⟩
   | false =>
    have R : Hid (clashB a b x y = false) := by show _ = _; simp [clashB, hs, h1]
    rw [hs] at hcom
    clear h1 hs e1 e2
    go_wp2_with fail
    refine (hcom.out _ hxV).mono ?_
    rintro e w2 ⟨rfl, hx2⟩
    go_wp2
    go_ret
    rw [R.out]
    exact ⟨rfl, (hx1.trans hxV).trans hx2⟩

end Go.Proofs.YtepcdhpikpmepaaGreat

/- Walks of package plan: Clash, isChoice, earlier, Lawful, Harm. -/
namespace Go.Proofs.YtepcdhpikpmepaaGreat
open Go.RowKit

/-! ### what validity gives -/
theorem chain_of {l : List (Int × Int)} : ∀ (p : Option Int), chainB p l = true → Chain l ∧ ∀ e, p = some e → ∀ s ∈ l, e < s.1 := by
 induction l with
 | nil => intro p _; exact ⟨⟨List.Pairwise.nil, by simp⟩, by simp⟩
 | cons s r ih =>
  intro p h
  cases p with
  | none =>
   simp only [chainB, Bool.and_eq_true, decide_eq_true_eq, Bool.and_true] at h
   obtain ⟨h1, h3⟩ := h
   obtain ⟨⟨c1, c2⟩, c3⟩ := ih _ h3
   refine ⟨⟨List.pairwise_cons.2 ⟨fun t ht => c3 _ rfl t ht, c1⟩, fun t ht => ?_⟩, by simp⟩
   rcases List.mem_cons.1 ht with rfl | ht
   ·exact h1
   ·exact c2 t ht
  | some e =>
   simp only [chainB, Bool.and_eq_true, decide_eq_true_eq] at h
   obtain ⟨⟨h1, h2⟩, h3⟩ := h
   obtain ⟨⟨c1, c2⟩, c3⟩ := ih _ h3
   refine ⟨⟨List.pairwise_cons.2 ⟨fun t ht => c3 _ rfl t ht, c1⟩, fun t ht => ?_⟩, fun e' he t ht => ?_⟩
   ·rcases List.mem_cons.1 ht with rfl | ht
    ·exact h1
    ·exact c2 t ht
   ·injection he with he
    subst he
    rcases List.mem_cons.1 ht with rfl | ht
    ·exact h2
    ·have := c3 _ rfl t ht; omega
theorem inc_of {l : List Int} : ∀ (p : Option Int), peopleB p l = true → Inc l ∧ ∀ e, p = some e → ∀ s ∈ l, e < s := by
 induction l with
 | nil => intro p _; exact ⟨List.Pairwise.nil, by simp⟩
 | cons s r ih =>
  intro p h
  cases p with
  | none =>
   simp only [peopleB, Bool.and_eq_true, Bool.and_true] at h
   obtain ⟨_, h3⟩ := h
   obtain ⟨c1, c3⟩ := ih _ h3
   exact ⟨List.pairwise_cons.2 ⟨fun t ht => c3 _ rfl t ht, c1⟩, by simp⟩
  | some e =>
   simp only [peopleB, Bool.and_eq_true, decide_eq_true_eq] at h
   obtain ⟨⟨_, h2⟩, h3⟩ := h
   obtain ⟨c1, c3⟩ := ih _ h3
   refine ⟨List.pairwise_cons.2 ⟨fun t ht => c3 _ rfl t ht, c1⟩, fun e' he t ht => ?_⟩
   injection he with he
   subst he
   rcases List.mem_cons.1 ht with rfl | ht
   ·exact h2
   ·have := c3 _ rfl t ht; omega
theorem wishIn_of {x : WishD} (h : wishOkB x = true) : WishIn x := by
 simp only [wishOkB, Bool.and_eq_true, List.all_eq_true] at h
 obtain ⟨⟨⟨h1, _⟩, _⟩, h4⟩ := h
 refine ⟨(inc_of _ h1).1, fun o ho => ?_⟩
 have := h4 o ho
 simp only [optOkB, Bool.and_eq_true] at this
 have h5 := this.2
 simp only [normalB, Bool.and_eq_true] at h5
 exact (chain_of _ h5.1).1
theorem wishesOk_of {l : List WishD} : ∀ (p : Option Int), wishesB p l = true → ∀ x ∈ l, wishOkB x = true := by
 induction l with
 | nil => intro p _ x hx; cases hx
 | cons s r ih =>
  intro p h x hx
  simp only [wishesB, Bool.and_eq_true] at h
  rcases List.mem_cons.1 hx with rfl | hx
  ·exact h.1.1
  ·exact ih _ h.2 x hx
def TaskIn (t : List WishD) : Prop := ∀ x ∈ t, WishIn x
theorem validT_ok {t : List WishD} (h : validT t = 0) : tooLargeB t = false ∧ (∀ x ∈ t, wishOkB x = true) ∧ 0 < t.length := by
 unfold validT at h
 split at h
 ·cases h
 ·rename_i hb
  split at h
  ·rename_i hw
   simp only [Bool.and_eq_true, decide_eq_true_eq] at hw
   exact ⟨by simpa using hb, wishesOk_of _ hw.1, hw.2⟩
  ·cases h
theorem taskIn_of {t : List WishD} (h : validT t = 0) : TaskIn t := fun x hx => wishIn_of ((validT_ok h).2.1 x hx)
theorem validT_cases (t : List WishD) : validT t = 0 ∨ validT t = 1 ∨ validT t = 2 := by
 unfold validT; split
 ·exact Or.inr (Or.inr rfl)
 ·split
  ·exact Or.inl rfl
  ·exact Or.inr (Or.inl rfl)

def optAt (t : List WishD) (a i : Int) : Option (WishD × OptD) :=
 if idxB a t.length then (t[a.toNat]?).bind fun x => if idxB i x.opts.length then (x.opts[i.toNat]?).map fun o => (x, o) else none else none
def clashT (t : List WishD) (a i b k : Int) : Bool :=
 decide (validT t = 0) && decide (a ≠ b) && (match optAt t a i, optAt t b k with | some (x, o), some (y, p) => clashB x y o p | _, _ => false)
def choiceB : List WishD → List Int → Bool
 | [], [] => true
 | x :: t, k :: p => idxB k x.opts.length && choiceB t p
 | _, _ => false


theorem clashT_invalid {t : List WishD} (h : validT t ≠ 0) (a i b k : Int) : clashT t a i b k = false := by simp [clashT, h]
theorem clashT_a {t : List WishD} {a : Int} (h : idxB a t.length = false) (i b k : Int) : clashT t a i b k = false := by simp [clashT, optAt, h]
theorem clashT_b {t : List WishD} {b : Int} (h : idxB b t.length = false) (a i k : Int) : clashT t a i b k = false := by
 simp only [clashT, optAt, h]
 cases (if idxB a t.length = true then (t[a.toNat]?).bind fun x => if idxB i x.opts.length = true then (x.opts[i.toNat]?).map fun o => (x, o) else none else none) <;> simp
theorem clashT_same (t : List WishD) (a i k : Int) : clashT t a i a k = false := by simp [clashT]
theorem idxB_nat {i : Int} {n : Nat} (h : idxB i n = true) : ∃ j : Nat, i = j ∧ j < n := by
 simp [idxB] at h
 exact ⟨i.toNat, by omega, by omega⟩
theorem idxB_of_lt {j n : Nat} (h : j < n) : idxB (j : Int) (n : Int) = true := by simp [idxB]; omega
theorem optAt_none {t : List WishD} {a : Nat} {x : WishD} (h : t[a]? = some x) {i : Int} (hi : idxB i x.opts.length = false) : optAt t a i = none := by
 have := (List.getElem?_eq_some_iff.1 h).1
 simp [optAt, idxB_of_lt this, h, hi]
theorem optAt_some {t : List WishD} {a : Nat} {x : WishD} (h : t[a]? = some x) {i : Nat} {o : OptD} (ho : x.opts[i]? = some o) : optAt t a i = some (x, o) := by
 have h1 := (List.getElem?_eq_some_iff.1 h).1
 have h2 := (List.getElem?_eq_some_iff.1 ho).1
 simp [optAt, idxB_of_lt h1, idxB_of_lt h2, h, ho]
theorem clashT_i {t : List WishD} {a : Nat} {x : WishD} (h : t[a]? = some x) {i : Int} (hi : idxB i x.opts.length = false) (b k : Int) : clashT t a i b k = false := by
 simp [clashT, optAt_none h hi]
theorem clashT_k {t : List WishD} {b : Nat} {x : WishD} (h : t[b]? = some x) {k : Int} (hi : idxB k x.opts.length = false) (a i : Int) : clashT t a i b k = false := by
 simp only [clashT, optAt_none h hi]
 cases optAt t a i <;> simp
theorem clashT_eq {t : List WishD} (hv : validT t = 0) {a b : Nat} (hab : a ≠ b) {x y : WishD} (h : t[a]? = some x) (h' : t[b]? = some y) {i k : Nat} {o p : OptD} (ho : x.opts[i]? = some o) (hp : y.opts[k]? = some p) :
  clashT t a i b k = clashB x y o p := by
 have : ¬ (a : Int) = b := by omega
 simp [clashT, optAt_some h ho, optAt_some h' hp, hv, this]

set_option maxHeartbeats 1600000 in
theorem clashP_calls (wv : Value) (t : List WishD) (a i b k : Int) (w : World) (h : Wishes w wv t) :
  Calls Tryz.prog 46 #[.agg #[wv], .int .i64 a, .int .i64 i, .int .i64 b, .int .i64 k] w fun e w' => e = .returned (.bool (clashT t a i b k)) ∧ Ext w w' := by
 have hT := Lib.hid h
 obtain ⟨ta, tc, rfl, hn, hc, hat⟩ := h.open
 clear h
 have hval : ∀ z, validT t = z → ∀ W, Ext w W → Calls Tryz.prog 17 #[.agg #[.slice ta t.length tc]] W fun e w' => e = .returned (.int .i64 z) ∧ Ext W w' :=
  fun z hz W hW => hz ▸ valid_calls _ t W (hT.out.ext hW)
 rcases validT_cases t with hv | hv | hv
 rotate_left
 ·have R : Hid (clashT t a i b k = false) := clashT_invalid (by omega) a i b k
  have hc1 := Lib.hid (hval _ hv)
  clear hval hv hat
  go_enter Tryz.func46, Tryz.ntmps46
  go_wp2_with fail
  refine (hc1.out _ (by with_reducible repeat' (first | exact Ext.refl _ | assumption | refine Ext.drewN ?_ _ | refine Ext.drew ?_ | refine Ext.alloc ?_ _ | refine Ext.trans ?_ (by with_reducible assumption)))).mono ?_
  rintro e w1 ⟨rfl, hx1⟩
  go_wp2
  go_ret
  rw [R.out]
  exact ⟨rfl, ((Ext.refl _).alloc _).trans hx1⟩
 ·have R : Hid (clashT t a i b k = false) := clashT_invalid (by omega) a i b k
  have hc1 := Lib.hid (hval _ hv)
  clear hval hv hat
  go_enter Tryz.func46, Tryz.ntmps46
  go_wp2_with fail
  refine (hc1.out _ (by with_reducible repeat' (first | exact Ext.refl _ | assumption | refine Ext.drewN ?_ _ | refine Ext.drew ?_ | refine Ext.alloc ?_ _ | refine Ext.trans ?_ (by with_reducible assumption)))).mono ?_
  rintro e w1 ⟨rfl, hx1⟩
  go_wp2
  go_ret
  rw [R.out]
  exact ⟨rfl, ((Ext.refl _).alloc _).trans hx1⟩
 have hc1 := Lib.hid (hval _ hv)
 have hv' := Lib.hid hv
 clear hval hv
 go_enter Tryz.func46, Tryz.ntmps46
 go_wp2_with fail
 refine (hc1.out _ (by with_reducible repeat' (first | exact Ext.refl _ | assumption | refine Ext.drewN ?_ _ | refine Ext.drew ?_ | refine Ext.alloc ?_ _ | refine Ext.trans ?_ (by with_reducible assumption)))).mono ?_
 rintro e w1 ⟨rfl, hx1⟩
 have c0 : w1.cell? ⟨w.heap.size, 0, none⟩ = some (.slice ta t.length tc) := hx1.cell (by simp)
 have hxw := ((Ext.refl w).alloc (.cells #[.slice ta t.length tc] 28)).trans hx1
 clear hx1 hc1
 go_wp2_with fail
 refine (index_calls _ _ _).mono ?_
 rintro e w2 ⟨rfl, hx2⟩
 cases ha : idxB a t.length with
 | false =>
  have R : Hid (clashT t a i b k = false) := clashT_a ha i b k
  have ha' := Lib.hid ha
  clear ha hat
  go_wp2
  go_ret
  rw [R.out]
  exact ⟨rfl, hxw.trans hx2⟩
 | true =>
 have ha' := Lib.hid ha
 clear ha
 go_wp2_with fail
 refine (index_calls _ _ _).mono ?_
 rintro e w3 ⟨rfl, hx3⟩
 cases hb : idxB b t.length with
 | false =>
  have R : Hid (clashT t a i b k = false) := clashT_b hb a i k
  have hb' := Lib.hid hb
  clear hb hat
  go_wp2
  go_ret
  rw [R.out]
  exact ⟨rfl, (hxw.trans hx2).trans hx3⟩
 | true =>
 have hb' := Lib.hid hb
 clear hb
 by_cases hab : (a == b) = true
 ·have R : Hid (clashT t a i b k = false) := by show _ = _; rw [eq_of_beq hab]; exact clashT_same t b i k
  clear hat
  go_wp2
  go_ret
  rw [R.out]
  exact ⟨rfl, (hxw.trans hx2).trans hx3⟩
 have hab : (a == b) = false := by simpa using hab
 obtain ⟨a, rfl, la⟩ := idxB_nat ha'.out
 obtain ⟨b, rfl, lb⟩ := idxB_nat hb'.out
 have hne : Hid (a ≠ b) := by show a ≠ b; rintro rfl; simp at hab
 have hxr := (hxw.trans hx2).trans hx3
 obtain ⟨b1, o1, x, pa, pc, oa, oc, rfl, hb1, _, ex, g1, g2, g3, gp, go⟩ := hat a la w3 hxr
 obtain ⟨b2, o2, y, pa', pc', oa', oc', e2, hb2, _, ey, k1, k2, k3, kp, ko⟩ := hat b lb w3 hxr
 cases e2
 have d0 := (hx2.trans hx3).cell c0
 have hB : w.heap.size < w3.heap.size := World.block_lt_of_cell? _ _ d0
 clear hat c0 ha' hb' hb2
 have lo := go.len
 have lo' := ko.len
 have hcl : Hid (∀ (i k : Nat) (o p : OptD), x.opts[i]? = some o → y.opts[k]? = some p → ∀ W, Ext w3 W → Calls Tryz.prog 68 #[.agg #[.int .i64 x.meeting, .slice pa x.people.length pc, .slice oa x.opts.length oc], .agg #[.int .i64 y.meeting, .slice pa' y.people.length pc', .slice oa' y.opts.length oc'], .int .i64 i, .int .i64 k] W
   fun e w' => e = .returned (.bool (clashB x y o p)) ∧ Ext W w') := fun i k o p ho hp W hW =>
  clash_calls _ _ x y i k o p W ⟨_, _, rfl, gp.ext hW, go.ext hW⟩ ⟨_, _, rfl, kp.ext hW, ko.ext hW⟩ (taskIn_of hv'.out x (List.mem_of_getElem? ex.out)) (taskIn_of hv'.out y (List.mem_of_getElem? ey.out)) ho hp
 clear gp go kp ko
 go_wp2_with fail
 refine wp_abs (S := fun W => Ext w3 W ∧ w3.heap.size ≤ W.heap.size) ⟨Ext.refl _, Nat.le_refl _⟩ ?_
 rintro W1 ⟨hx4, hs4⟩
 have d0' := hx4.cell d0
 have g1' := hx4.cell g1
 have g2' := hx4.cell g2
 have g3' := hx4.cell g3
 have k1' := hx4.cell k1
 have k2' := hx4.cell k2
 have k3' := hx4.cell k3
 have hB1 : w.heap.size < W1.heap.size := by omega
 have hB2 : b1 < W1.heap.size := by omega
 clear d0 g1 g2 g3 k1 k2 k3 hs4 hB hb1
 go_region
 ·go_step
  go_step
  refine wp_abs (S := fun V => Ext W1 V ∧ V.cell? ⟨W1.heap.size, 0, none⟩ = some (.int .i64 x.meeting) ∧ V.cell? ⟨W1.heap.size, 1, none⟩ = some (.slice pa x.people.length pc) ∧ V.cell? ⟨W1.heap.size, 2, none⟩ = some (.slice oa x.opts.length oc) ∧
    V.cell? ⟨W1.heap.size + 1, 0, none⟩ = some (.int .i64 y.meeting) ∧ V.cell? ⟨W1.heap.size + 1, 1, none⟩ = some (.slice pa' y.people.length pc') ∧ V.cell? ⟨W1.heap.size + 1, 2, none⟩ = some (.slice oa' y.opts.length oc')) ⟨(by with_reducible repeat' (first | exact Ext.refl _ | assumption | refine Ext.drewN ?_ _ | refine Ext.drew ?_ | refine Ext.alloc ?_ _ | refine Ext.trans ?_ (by with_reducible assumption))), by simp, by simp, by simp, by simp, by simp, by simp⟩ ?_
  rintro V ⟨hxV, vx0, vx1, vx2, vy0, vy1, vy2⟩
  clear d0' g1' g2' g3' k1' k2' k3'
  have hxA := (hxr.trans hx4).trans hxV
  go_wp2_with fail
  refine (index_calls _ _ _).mono ?_
  rintro e w4 ⟨rfl, hx5⟩
  cases hi : idxB i x.opts.length with
  | false =>
   have R : Hid (clashT t a i b k = false) := clashT_i ex.out hi b k
   have hi' := Lib.hid hi
   clear hi
   go_wp2
   go_ret
   rw [R.out]
   exact ⟨rfl, hxA.trans hx5⟩
  | true =>
   have hi' := Lib.hid hi
   clear hi
   have p0 := hx5.cell vy2
   go_wp2_with fail
   refine (index_calls _ _ _).mono ?_
   rintro e w5 ⟨rfl, hx6⟩
   cases hk : idxB k y.opts.length with
   | false =>
    have R : Hid (clashT t a i b k = false) := clashT_k ey.out hk a i
    have hk' := Lib.hid hk
    clear hk
    go_wp2
    go_ret
    rw [R.out]
    exact ⟨rfl, (hxA.trans hx5).trans hx6⟩
   | true =>
    obtain ⟨i, rfl, li⟩ := idxB_nat hi'.out
    obtain ⟨k, rfl, lk⟩ := idxB_nat hk
    clear hk
    obtain ⟨o, _, ho⟩ := drop_cons x.opts i li
    obtain ⟨p, _, hp⟩ := drop_cons y.opts k lk
    have R : Hid (clashT t a i b k = clashB x y o p) := clashT_eq hv'.out hne.out ex.out ey.out ho hp
    have hcl' := Lib.hid (hcl.out i k o p ho hp)
    clear hcl ho hp p0
    have q0 := (hx5.trans hx6).cell vx0
    have q1 := (hx5.trans hx6).cell vx1
    have q2 := (hx5.trans hx6).cell vx2
    have r0 := (hx5.trans hx6).cell vy0
    have r1 := (hx5.trans hx6).cell vy1
    have r2 := (hx5.trans hx6).cell vy2
    go_wp2_with fail
    refine (hcl'.out _ (((hx4.trans hxV).trans hx5).trans hx6)).mono ?_
    rintro e w6 ⟨rfl, hx7⟩
    go_wp2
    go_ret
    rw [R.out]
    exact ⟨rfl, ((hxA.trans hx5).trans hx6).trans hx7⟩
 ·go_step
  go_step
  refine wp_abs (S := fun V => Ext W1 V ∧ V.cell? ⟨W1.heap.size + 1, 0, none⟩ = some (.int .i64 x.meeting) ∧ V.cell? ⟨W1.heap.size + 1, 1, none⟩ = some (.slice pa x.people.length pc) ∧ V.cell? ⟨W1.heap.size + 1, 2, none⟩ = some (.slice oa x.opts.length oc) ∧
    V.cell? ⟨W1.heap.size, 0, none⟩ = some (.int .i64 y.meeting) ∧ V.cell? ⟨W1.heap.size, 1, none⟩ = some (.slice pa' y.people.length pc') ∧ V.cell? ⟨W1.heap.size, 2, none⟩ = some (.slice oa' y.opts.length oc')) ⟨(by with_reducible repeat' (first | exact Ext.refl _ | assumption | refine Ext.drewN ?_ _ | refine Ext.drew ?_ | refine Ext.alloc ?_ _ | refine Ext.trans ?_ (by with_reducible assumption))), by simp, by simp, by simp, by simp, by simp, by simp⟩ ?_
  rintro V ⟨hxV, vx0, vx1, vx2, vy0, vy1, vy2⟩
  clear d0' g1' g2' g3' k1' k2' k3'
  have hxA := (hxr.trans hx4).trans hxV
  go_wp2_with fail
  refine (index_calls _ _ _).mono ?_
  rintro e w4 ⟨rfl, hx5⟩
  cases hi : idxB i x.opts.length with
  | false =>
   have R : Hid (clashT t a i b k = false) := clashT_i ex.out hi b k
   have hi' := Lib.hid hi
   clear hi
   go_wp2
   go_ret
   rw [R.out]
   exact ⟨rfl, hxA.trans hx5⟩
  | true =>
   have hi' := Lib.hid hi
   clear hi
   have p0 := hx5.cell vy2
   go_wp2_with fail
   refine (index_calls _ _ _).mono ?_
   rintro e w5 ⟨rfl, hx6⟩
   cases hk : idxB k y.opts.length with
   | false =>
    have R : Hid (clashT t a i b k = false) := clashT_k ey.out hk a i
    have hk' := Lib.hid hk
    clear hk
    go_wp2
    go_ret
    rw [R.out]
    exact ⟨rfl, (hxA.trans hx5).trans hx6⟩
   | true =>
    obtain ⟨i, rfl, li⟩ := idxB_nat hi'.out
    obtain ⟨k, rfl, lk⟩ := idxB_nat hk
    clear hk
    obtain ⟨o, _, ho⟩ := drop_cons x.opts i li
    obtain ⟨p, _, hp⟩ := drop_cons y.opts k lk
    have R : Hid (clashT t a i b k = clashB x y o p) := clashT_eq hv'.out hne.out ex.out ey.out ho hp
    have hcl' := Lib.hid (hcl.out i k o p ho hp)
    clear hcl ho hp p0
    have q0 := (hx5.trans hx6).cell vx0
    have q1 := (hx5.trans hx6).cell vx1
    have q2 := (hx5.trans hx6).cell vx2
    have r0 := (hx5.trans hx6).cell vy0
    have r1 := (hx5.trans hx6).cell vy1
    have r2 := (hx5.trans hx6).cell vy2
    go_wp2_with fail
    refine (hcl'.out _ (((hx4.trans hxV).trans hx5).trans hx6)).mono ?_
    rintro e w6 ⟨rfl, hx7⟩
    go_wp2
    go_ret
    rw [R.out]
    exact ⟨rfl, ((hxA.trans hx5).trans hx6).trans hx7⟩

end Go.Proofs.YtepcdhpikpmepaaGreat
