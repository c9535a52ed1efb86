/- Merged parts: PlanWalksA, PlanWalksB, PlanWalksC, PlanWalksD. -/
import Derived.Test.YtepcdhpikpmepaaGreatPAQ
/- Walks of package plan's small functions: common, meet, index, validOption, least; slices.IndexFunc, ContainsFunc at options. -/
namespace Go.Proofs.YtepcdhpikpmepaaGreat
open Go.RowKit

theorem index_calls (i n : Int) (w : World) : Calls Tryz.prog 44 #[.int .i64 i, .int .i64 n] w fun e w' => e = .returned (.bool (idxB i n)) ∧ Ext w w' := by
 by_cases h : 0 ≤ i ∧ i < n
 ·have R : Hid (idxB i n = true) := by show _ = _; simpa [idxB] using h
  obtain ⟨h1, h2⟩ := h
  go_enter Tryz.func44, Tryz.ntmps44
  go_wp2
  go_ret
  rw [R.out]
  exact ⟨rfl, Ext.refl _⟩
 ·have R : Hid (idxB i n = false) := by show _ = _; simpa [idxB] using h
  by_cases h1 : 0 ≤ i
  ·have h2 : decide (i < n) = false := by simp; omega
   clear h
   go_enter Tryz.func44, Tryz.ntmps44
   go_wp2
   go_ret
   rw [R.out]
   exact ⟨rfl, Ext.refl _⟩
  ·clear h
   go_enter Tryz.func44, Tryz.ntmps44
   go_wp2
   go_ret
   rw [R.out]
   exact ⟨rfl, Ext.refl _⟩

theorem any_ext {α : Type} {l : List α} {f g : α → Bool} (h : ∀ x ∈ l, f x = g x) : l.any f = l.any g := by
 induction l with
 | nil => rfl
 | cons a l ih => simp only [List.any_cons]; rw [h a List.mem_cons_self, ih fun x hx => h x (List.mem_cons_of_mem _ hx)]

def Inc (l : List Int) : Prop := l.Pairwise (· < ·)
theorem Inc.drop {l : List Int} (h : Inc l) (i : Nat) : Inc (l.drop i) := List.Pairwise.sublist (List.drop_sublist i l) h
theorem share_eq {a b a' b' : List Int} {x : Int} (ha : a = x :: a') (hb : b = x :: b') : shareB a b = true := by
 subst ha hb; simp [shareB]
theorem share_lt {a b a' b' : List Int} {x y : Int} (ha : a = x :: a') (hb : b = y :: b') (hs : Inc b) (h : x < y) : shareB a b = shareB a' b := by
 subst ha hb
 have : x ∉ (y :: b') := by
  intro hm
  rcases List.mem_cons.1 hm with rfl | hm
  ·omega
  ·have := (List.pairwise_cons.1 hs).1 x hm; omega
 simp only [shareB, List.any_cons]
 rw [show (y :: b').contains x = false by simpa using this]; rfl
theorem share_gt {a b a' b' : List Int} {x y : Int} (ha : a = x :: a') (hb : b = y :: b') (hs : Inc a) (h : y < x) : shareB a b = shareB a b' := by
 subst ha hb
 have : ∀ z ∈ x :: a', z ≠ y := by
  intro z hz e
  rcases List.mem_cons.1 hz with rfl | hm
  ·omega
  ·have := (List.pairwise_cons.1 hs).1 z hm; omega
 unfold shareB
 generalize x :: a' = l at this
 induction l with
 | nil => rfl
 | cons z l ih =>
  simp only [List.any_cons]
  rw [ih (fun u hu => this u (List.mem_cons_of_mem _ hu))]
  have hz := this z List.mem_cons_self
  rw [show (y :: b').contains z = b'.contains z by simp [hz]]
theorem share_nil_left (b : List Int) : shareB [] b = false := rfl
theorem share_nil_right (a : List Int) : shareB a [] = false := by simp [shareB]

set_option maxHeartbeats 1000000 in
theorem common_calls (va vb : Value) (a b : List Int) (w : World) (ha : Ints w va a) (hb : Ints w vb b) (sa : Inc a) (sb : Inc b) :
  Calls Tryz.prog 87 #[va, vb] w fun e w' => e = .returned (.bool (shareB a b)) ∧ Ext w w' := by
 obtain ⟨aa, ca, rfl, hna, hca, hca'⟩ := ha.open
 obtain ⟨ab, cb, rfl, hnb, hcb, hcb'⟩ := hb.open
 clear ha hb
 have sa' := Lib.hid sa
 have sb' := Lib.hid sb
 clear sa sb
 go_enter Tryz.func87, Tryz.ntmps87
 go_wp2_with fail
 go_loopw [5, 6] (fun vi vk wr => ∃ i k : Nat, i ≤ a.length ∧ k ≤ b.length ∧ vi = .int .i64 i ∧ vk = .int .i64 k ∧ Ext w wr ∧
   Hid (shareB a b = shareB (a.drop i) (b.drop k))) (fun vi vk _ => a.length + b.length - (intOf vi).toNat - (intOf vk).toNat)
 case atStart => exact ⟨0, 0, by omega, by omega, rfl, rfl, Ext.refl _, rfl⟩
 case round =>
  obtain ⟨i, k, hi, hk, rfl, rfl, hx, hF⟩ := hrel
  by_cases h1 : i < a.length
  ·by_cases h2 : k < b.length
   ·obtain ⟨b1, o1, x, rfl, hb1, dx, ex, g1⟩ := hca' i h1 wr hx
    obtain ⟨b2, o2, y, rfl, hb2, dy, ey, g2⟩ := hcb' k h2 wr hx
    clear hca' hcb'
    by_cases h3 : (x == y) = true
    ·have R : Hid (shareB a b = true) := hF.out.trans (share_eq dx.out (by rw [eq_of_beq h3]; exact dy.out))
     go_wp2_with fail
     go_quiet (fail)
     go_wp2
     go_ret
     rw [R.out]
     exact ⟨rfl, (by with_reducible repeat' (first | exact Ext.refl _ | assumption | refine Ext.drewN ?_ _ | refine Ext.drew ?_ | refine Ext.alloc ?_ _ | refine Ext.trans ?_ (by with_reducible assumption)))⟩
    ·have h3 : (x == y) = false := by simpa using h3
     by_cases h4 : x < y
     ·have R : Hid (shareB a b = shareB (a.drop (i + 1)) (b.drop k)) := hF.out.trans (share_lt dx.out dy.out (sb'.out.drop k) h4)
      go_wp2_with fail
      go_quiet (fail)
      go_wp2_with fail
      go_quiet (fail)
      go_wp2
      go_roundw
      case rel => exact ⟨i + 1, k, by omega, by omega, by go_num, rfl, (by with_reducible repeat' (first | exact Ext.refl _ | assumption | refine Ext.drewN ?_ _ | refine Ext.drew ?_ | refine Ext.alloc ?_ _ | refine Ext.trans ?_ (by with_reducible assumption))), R⟩
      case measure => simp [intOf]; omega
     ·have h5 : y < x := by have : ¬ x = y := by simpa using h3
                            omega
      have R : Hid (shareB a b = shareB (a.drop i) (b.drop (k + 1))) := hF.out.trans (share_gt dx.out dy.out (sa'.out.drop i) h5)
      go_wp2_with fail
      go_quiet (fail)
      go_wp2_with fail
      go_quiet (fail)
      go_wp2
      go_roundw
      case rel => exact ⟨i, k + 1, by omega, by omega, rfl, by go_num, (by with_reducible repeat' (first | exact Ext.refl _ | assumption | refine Ext.drewN ?_ _ | refine Ext.drew ?_ | refine Ext.alloc ?_ _ | refine Ext.trans ?_ (by with_reducible assumption))), R⟩
      case measure => simp [intOf]; omega
   ·have R : Hid (shareB a b = false) := by
     refine hF.out.trans ?_
     rw [List.drop_of_length_le (l := b) (by omega)]; exact share_nil_right _
    clear hF hca' hcb'
    go_wp2
    go_ret
    rw [R.out]
    exact ⟨rfl, hx⟩
  ·have R : Hid (shareB a b = false) := by
    refine hF.out.trans ?_
    rw [List.drop_of_length_le (l := a) (by omega)]; exact share_nil_left _
   clear hF hca' hcb'
   go_wp2
   go_ret
   rw [R.out]
   exact ⟨rfl, hx⟩

/-! ### meet -/
def Chain (l : List (Int × Int)) : Prop := l.Pairwise (fun s t => s.2 < t.1) ∧ ∀ s ∈ l, s.1 < s.2
theorem Chain.drop {l : List (Int × Int)} (h : Chain l) (i : Nat) : Chain (l.drop i) :=
 ⟨List.Pairwise.sublist (List.drop_sublist i l) h.1, fun s hs => h.2 s (List.mem_of_mem_drop hs)⟩
theorem meet_nil_left (b : List (Int × Int)) : meetB [] b = false := rfl
theorem meet_nil_right (a : List (Int × Int)) : meetB a [] = false := by simp [meetB]
theorem meet_yes {a b a' b' : List (Int × Int)} {x y p q : Int} (ha : a = (x, y) :: a') (hb : b = (p, q) :: b') (h1 : p < y) (h2 : x < q) : meetB a b = true := by
 subst ha hb; simp [meetB]; left; left; omega
theorem meet_left {a b a' b' : List (Int × Int)} {x y p q : Int} (ha : a = (x, y) :: a') (hb : b = (p, q) :: b') (hs : Chain b) (h1 : y ≤ p) : meetB a b = meetB a' b := by
 subst ha
 simp only [meetB, List.any_cons]
 rw [show (b.any fun t => decide ((x, y).1 < t.2) && decide (t.1 < (x, y).2)) = false from ?_]
 ·rfl
 rw [List.any_eq_false]
 intro t ht
 have : p ≤ t.1 := by
  subst hb
  rcases List.mem_cons.1 ht with rfl | hm
  ·simp
  ·have h2 := (List.pairwise_cons.1 hs.1).1 t hm
   have h3 := hs.2 (p, q) List.mem_cons_self
   simp at h2 h3; omega
 simp; intro _; omega
theorem meet_right {a b a' b' : List (Int × Int)} {x y p q : Int} (ha : a = (x, y) :: a') (hb : b = (p, q) :: b') (hs : Chain a) (h1 : q ≤ x) : meetB a b = meetB a b' := by
 subst hb
 have key : ∀ t ∈ a, x ≤ t.1 := by
  intro t ht
  subst ha
  rcases List.mem_cons.1 ht with rfl | hm
  ·simp
  ·have h2 := (List.pairwise_cons.1 hs.1).1 t hm
   have h3 := hs.2 (x, y) List.mem_cons_self
   simp at h2 h3; omega
 unfold meetB
 refine any_ext fun z hz => ?_
 have hz := key z hz
 simp only [List.any_cons]
 rw [show (decide (z.1 < (p, q).2) && decide ((p, q).1 < z.2)) = false by simp; intro h; omega]
 rfl

set_option maxHeartbeats 1000000 in
theorem meet_calls (va vb : Value) (a b : List (Int × Int)) (w : World) (ha : Spans w va a) (hb : Spans w vb b) (sa : Chain a) (sb : Chain b) :
  Calls Tryz.prog 88 #[va, vb] w fun e w' => e = .returned (.bool (meetB a b)) ∧ Ext w w' := by
 obtain ⟨aa, ca, rfl, hna, hca, hca'⟩ := ha.open
 obtain ⟨ab, cb, rfl, hnb, hcb, hcb'⟩ := hb.open
 clear ha hb
 have sa' := Lib.hid sa
 have sb' := Lib.hid sb
 clear sa sb
 go_enter Tryz.func88, Tryz.ntmps88
 go_wp2_with fail
 go_loopw [5, 6] (fun vi vk wr => ∃ i k : Nat, i ≤ a.length ∧ k ≤ b.length ∧ vi = .int .i64 i ∧ vk = .int .i64 k ∧ Ext w wr ∧
   Hid (meetB a b = meetB (a.drop i) (b.drop k))) (fun vi vk _ => a.length + b.length - (intOf vi).toNat - (intOf vk).toNat)
 case atStart => exact ⟨0, 0, by omega, by omega, rfl, rfl, Ext.refl _, rfl⟩
 case round =>
  obtain ⟨i, k, hi, hk, rfl, rfl, hx, hF⟩ := hrel
  by_cases h1 : i < a.length
  ·by_cases h2 : k < b.length
   ·obtain ⟨b1, o1, x, y, rfl, hb1, dx, ex, g1, g1'⟩ := hca' i h1 wr hx
    obtain ⟨b2, o2, p, q, rfl, hb2, dy, ey, g2, g2'⟩ := hcb' k h2 wr hx
    clear hca' hcb'
    by_cases h3 : y ≤ p
    ·have R : Hid (meetB a b = meetB (a.drop (i + 1)) (b.drop k)) := hF.out.trans (meet_left dx.out dy.out (sb'.out.drop k) h3)
     go_wp2_with fail
     go_quiet (fail)
     go_wp2
     go_roundw
     case rel => exact ⟨i + 1, k, by omega, by omega, by go_num, rfl, (by with_reducible repeat' (first | exact Ext.refl _ | assumption | refine Ext.drewN ?_ _ | refine Ext.drew ?_ | refine Ext.alloc ?_ _ | refine Ext.trans ?_ (by with_reducible assumption))), R⟩
     case measure => simp [intOf]; omega
    ·by_cases h4 : q ≤ x
     ·have R : Hid (meetB a b = meetB (a.drop i) (b.drop (k + 1))) := hF.out.trans (meet_right dx.out dy.out (sa'.out.drop i) h4)
      go_wp2_with fail
      go_quiet (fail)
      go_wp2_with fail
      go_quiet (fail)
      go_wp2
      go_roundw
      case rel => exact ⟨i, k + 1, by omega, by omega, rfl, by go_num, (by with_reducible repeat' (first | exact Ext.refl _ | assumption | refine Ext.drewN ?_ _ | refine Ext.drew ?_ | refine Ext.alloc ?_ _ | refine Ext.trans ?_ (by with_reducible assumption))), R⟩
      case measure => simp [intOf]; omega
     ·have R : Hid (meetB a b = true) := hF.out.trans (meet_yes dx.out dy.out (by omega) (by omega))
      go_wp2_with fail
      go_quiet (fail)
      go_wp2_with fail
      go_quiet (fail)
      go_wp2
      go_ret
      rw [R.out]
      exact ⟨rfl, (by with_reducible repeat' (first | exact Ext.refl _ | assumption | refine Ext.drewN ?_ _ | refine Ext.drew ?_ | refine Ext.alloc ?_ _ | refine Ext.trans ?_ (by with_reducible assumption)))⟩
   ·have R : Hid (meetB a b = false) := by
     refine hF.out.trans ?_
     rw [List.drop_of_length_le (l := b) (by omega)]; exact meet_nil_right _
    clear hF hca' hcb'
    go_wp2
    go_ret
    rw [R.out]
    exact ⟨rfl, hx⟩
  ·have R : Hid (meetB a b = false) := by
    refine hF.out.trans ?_
    rw [List.drop_of_length_le (l := a) (by omega)]; exact meet_nil_left _
   clear hF hca' hcb'
   go_wp2
   go_ret
   rw [R.out]
   exact ⟨rfl, hx⟩

/-! ### options -/
theorem validOption_calls (v : Value) (o : OptD) (w : World) (h : OptV w v o) :
  Calls Tryz.prog 67 #[v] w fun e w' => e = .returned (.bool (optOkB o)) ∧ Ext w w' := by
 obtain ⟨sv, rfl, hs⟩ := h
 obtain ⟨a, c, rfl⟩ := hs.form
 obtain ⟨hm, r, sp⟩ := o
 dsimp only at *
 by_cases hc : 0 ≤ hm ∧ hm ≤ 1000000 ∧ -1 ≤ r ∧ r < 256
 ·obtain ⟨h1, h2, h3, h4⟩ := hc
  have R : Hid (normalB sp = optOkB ⟨hm, r, sp⟩) := by show _ = _; simp [optOkB, h1, h2, h3, h4]
  have hcall : Hid (∀ W, Ext w W → Calls Tryz.prog 86 #[.slice a sp.length c] W fun e w' => e = .returned (.bool (normalB sp)) ∧ Ext W w') := fun W hW => spanValid_calls _ _ _ (hs.ext hW)
  clear hs
  go_enter Tryz.func67, Tryz.ntmps67
  go_wp2_with fail
  refine (hcall.out _ ((Ext.refl _).alloc _)).mono ?_
  rintro e w1 ⟨rfl, hx⟩
  go_wp2
  go_ret
  rw [R.out]
  exact ⟨rfl, ((Ext.refl _).alloc _).trans hx⟩
 ·have R : Hid (optOkB ⟨hm, r, sp⟩ = false) := by
   show _ = _
   simp only [optOkB]
   rw [show (decide (0 ≤ hm) && decide (hm ≤ 1000000) && decide (-1 ≤ r) && decide (r < 256)) = false by simp; omega]
   rfl
  clear hs
  go_enter Tryz.func67, Tryz.ntmps67
  go_wp2
  all_goals
   go_ret
   rw [R.out]
   exact ⟨rfl, (Ext.refl _).alloc _⟩

theorem validWish1_calls (v : Value) (o : OptD) (w : World) (h : OptV w v o) :
  Calls Tryz.prog 66 #[v] w fun e w' => e = .returned (.bool (!optOkB o)) ∧ Ext w w' := by
 obtain ⟨sv, rfl, hs⟩ := h
 obtain ⟨a, c, rfl⟩ := hs.form
 have hcall : Hid (∀ W, Ext w W → Calls Tryz.prog 67 #[.agg #[.int .i64 o.harm, .int .i64 o.room, .slice a o.spans.length c]] W fun e w' => e = .returned (.bool (optOkB o)) ∧ Ext W w') := fun W hW => validOption_calls _ _ _ ⟨_, rfl, hs.ext hW⟩
 clear hs
 go_enter Tryz.func66, Tryz.ntmps66
 go_wp2_with fail
 refine (hcall.out _ ((Ext.refl _).alloc _)).mono ?_
 rintro e w1 ⟨rfl, hx⟩
 go_wp2
 go_ret
 exact ⟨rfl, ((Ext.refl _).alloc _).trans hx⟩

theorem tooLarge11_calls (v : Value) (o : OptD) (w : World) (h : OptV w v o) :
  Calls Tryz.prog 65 #[v] w fun e w' => e = .returned (.bool (decide (64 < o.spans.length))) ∧ Ext w w' := by
 obtain ⟨sv, rfl, hs⟩ := h
 obtain ⟨a, c, rfl⟩ := hs.form
 have hl := hs.len
 clear hs
 go_enter Tryz.func65, Tryz.ntmps65
 go_wp2
 go_ret
 exact ⟨by simp; omega, (Ext.refl _).alloc _⟩

end Go.Proofs.YtepcdhpikpmepaaGreat

/- Walks of package plan: slices.IndexFunc, ContainsFunc at options and wishes; least; tooLarge; validWish; Valid. -/
namespace Go.Proofs.YtepcdhpikpmepaaGreat
open Go.RowKit

set_option maxHeartbeats 400000 in
theorem indexFunc_opt_calls (va : Value) (l : List OptD) (g : Nat) (hg : ∀ (x : Array Value) (W : World), (callFunc g x).run Tryz.prog W = .ok (.enter g x) W) (p : OptD → Bool) (w : World) (h : Opts w va l)
  (hf : ∀ s ∈ l, ∀ W, Ext w W → ∀ v, OptV W v s → Calls Tryz.prog g #[v] W fun e w' => e = .returned (.bool (p s)) ∧ Ext W w') :
  Calls Tryz.prog 85 #[va, .func (.func g) #[] #[]] w fun e w' => e = .returned (.int .i64 (findI p l)) ∧ Ext w w' := by
 obtain ⟨a, c, rfl, hn, hc, hat⟩ := h.open
 clear h
 have hf' := Lib.hid hf
 clear hf
 go_enter Tryz.func85, Tryz.ntmps85
 go_wp2_with fail
 go_loopw [8] (fun vi wr => ∃ i : Nat, i ≤ l.length ∧ vi = .int .i64 i ∧ Ext w wr ∧ Hid (FindAt p l i)) (fun vi _ => l.length - (intOf vi).toNat)
 case atStart => exact ⟨0, by omega, rfl, Ext.refl _, FindAt.zero _ _⟩
 case round =>
  obtain ⟨i, hi, rfl, hx, hF⟩ := hrel
  by_cases h1 : i < l.length
  ·obtain ⟨b1, o1, o, sa, sc, rfl, hb1, dx, ex, g1, g2, g3, gs⟩ := hat i h1 wr hx
   have hm : o ∈ l := List.mem_of_getElem? ex.out
   have hcall := Lib.hid (hf'.out o hm wr hx _ ⟨_, rfl, gs⟩)
   clear gs
   cases hp : p o with
   | true =>
    have R := Lib.hid (hF.out.hit ex.out hp)
    have hp' := Lib.hid hp
    clear hp
    go_wp2_with fail
    refine hcall.out.mono ?_
    rintro e w1 ⟨rfl, hx1⟩
    rw [hp'.out]
    go_wp2
    go_ret
    rw [R.out]
    exact ⟨rfl, hx.trans hx1⟩
   | false =>
    have R := Lib.hid (hF.out.miss ex.out hp)
    have hp' := Lib.hid hp
    clear hp
    go_wp2_with fail
    refine hcall.out.mono ?_
    rintro e w1 ⟨rfl, hx1⟩
    rw [hp'.out]
    go_wp2
    go_roundw
    case rel => exact ⟨i + 1, by omega, by go_num, hx.trans hx1, R⟩
    case measure => simp [intOf]; omega
  ·have R := Lib.hid (hF.out.none (by omega))
   go_wp2
   go_ret
   rw [R.out]
   exact ⟨rfl, hx⟩

theorem containsFunc_opt_calls (va : Value) (l : List OptD) (g : Nat) (hg : ∀ (x : Array Value) (W : World), (callFunc g x).run Tryz.prog W = .ok (.enter g x) W) (p : OptD → Bool) (w : World) (h : Opts w va l)
  (hf : ∀ s ∈ l, ∀ W, Ext w W → ∀ v, OptV W v s → Calls Tryz.prog g #[v] W fun e w' => e = .returned (.bool (p s)) ∧ Ext W w') :
  Calls Tryz.prog 64 #[va, .func (.func g) #[] #[]] w fun e w' => e = .returned (.bool (l.any p)) ∧ Ext w w' := by
 have hc := Lib.hid (indexFunc_opt_calls va l g hg p w h hf)
 have R := Lib.hid (findI_ge p l)
 clear hf h
 go_enter Tryz.func64, Tryz.ntmps64
 go_wp2_with fail
 refine hc.out.mono ?_
 rintro e w1 ⟨rfl, hx1⟩
 go_wp2
 go_ret
 rw [R.out]
 exact ⟨rfl, hx1⟩

set_option maxHeartbeats 400000 in
theorem indexFunc_wish_calls (va : Value) (l : List WishD) (g : Nat) (hg : ∀ (x : Array Value) (W : World), (callFunc g x).run Tryz.prog W = .ok (.enter g x) W) (p : WishD → Bool) (w : World) (h : Wishes w va l)
  (hf : ∀ s ∈ l, ∀ W, Ext w W → ∀ v, WishV W v s → Calls Tryz.prog g #[v] W fun e w' => e = .returned (.bool (p s)) ∧ Ext W w') :
  Calls Tryz.prog 84 #[va, .func (.func g) #[] #[]] w fun e w' => e = .returned (.int .i64 (findI p l)) ∧ Ext w w' := by
 obtain ⟨a, c, rfl, hn, hc, hat⟩ := h.open
 clear h
 have hf' := Lib.hid hf
 clear hf
 go_enter Tryz.func84, Tryz.ntmps84
 go_wp2_with fail
 go_loopw [8] (fun vi wr => ∃ i : Nat, i ≤ l.length ∧ vi = .int .i64 i ∧ Ext w wr ∧ Hid (FindAt p l i)) (fun vi _ => l.length - (intOf vi).toNat)
 case atStart => exact ⟨0, by omega, rfl, Ext.refl _, FindAt.zero _ _⟩
 case round =>
  obtain ⟨i, hi, rfl, hx, hF⟩ := hrel
  by_cases h1 : i < l.length
  ·obtain ⟨b1, o1, o, pa, pc, oa, oc, rfl, hb1, dx, ex, g1, g2, g3, gp, gs⟩ := hat i h1 wr hx
   have hm : o ∈ l := List.mem_of_getElem? ex.out
   have hcall := Lib.hid (hf'.out o hm wr hx _ ⟨_, _, rfl, gp, gs⟩)
   clear gs gp
   cases hp : p o with
   | true =>
    have R := Lib.hid (hF.out.hit ex.out hp)
    have hp' := Lib.hid hp
    clear hp
    go_wp2_with fail
    refine hcall.out.mono ?_
    rintro e w1 ⟨rfl, hx1⟩
    rw [hp'.out]
    go_wp2
    go_ret
    rw [R.out]
    exact ⟨rfl, hx.trans hx1⟩
   | false =>
    have R := Lib.hid (hF.out.miss ex.out hp)
    have hp' := Lib.hid hp
    clear hp
    go_wp2_with fail
    refine hcall.out.mono ?_
    rintro e w1 ⟨rfl, hx1⟩
    rw [hp'.out]
    go_wp2
    go_roundw
    case rel => exact ⟨i + 1, by omega, by go_num, hx.trans hx1, R⟩
    case measure => simp [intOf]; omega
  ·have R := Lib.hid (hF.out.none (by omega))
   go_wp2
   go_ret
   rw [R.out]
   exact ⟨rfl, hx⟩

theorem containsFunc_wish_calls (va : Value) (l : List WishD) (g : Nat) (hg : ∀ (x : Array Value) (W : World), (callFunc g x).run Tryz.prog W = .ok (.enter g x) W) (p : WishD → Bool) (w : World) (h : Wishes w va l)
  (hf : ∀ s ∈ l, ∀ W, Ext w W → ∀ v, WishV W v s → Calls Tryz.prog g #[v] W fun e w' => e = .returned (.bool (p s)) ∧ Ext W w') :
  Calls Tryz.prog 62 #[va, .func (.func g) #[] #[]] w fun e w' => e = .returned (.bool (l.any p)) ∧ Ext w w' := by
 have hc := Lib.hid (indexFunc_wish_calls va l g hg p w h hf)
 have R := Lib.hid (findI_ge p l)
 clear hf h
 go_enter Tryz.func62, Tryz.ntmps62
 go_wp2_with fail
 refine hc.out.mono ?_
 rintro e w1 ⟨rfl, hx1⟩
 go_wp2
 go_ret
 rw [R.out]
 exact ⟨rfl, hx1⟩

/-! ### too large -/
def bigWishB (x : WishD) : Bool := decide (16 < x.opts.length) || decide (64 < x.people.length) || x.opts.any fun o => decide (64 < o.spans.length)

theorem tooLarge1_calls (v : Value) (x : WishD) (w : World) (h : WishV w v x) :
  Calls Tryz.prog 63 #[v] w fun e w' => e = .returned (.bool (bigWishB x)) ∧ Ext w w' := by
 obtain ⟨pv, ov, rfl, hp, ho⟩ := h
 obtain ⟨pa, pc, rfl⟩ := hp.form
 obtain ⟨oa, oc, rfl⟩ := ho.form
 have lp := hp.len
 have lo := ho.len
 have hcall : Hid (∀ W, Ext w W → Calls Tryz.prog 64 #[.slice oa x.opts.length oc, .func (.func 65) #[] #[]] W fun e w' => e = .returned (.bool (x.opts.any fun o => decide (64 < o.spans.length))) ∧ Ext W w') :=
  fun W hW => containsFunc_opt_calls _ _ _ (fun _ _ => by kernel_rfl) _ _ (ho.ext hW) (fun s _ W _ v hv => tooLarge11_calls v s W hv)
 clear hp ho
 by_cases h1 : 16 < x.opts.length
 ·have R : Hid (bigWishB x = true) := by show _ = _; simp [bigWishB, h1]
  go_enter Tryz.func63, Tryz.ntmps63
  go_wp2
  go_ret
  rw [R.out]
  exact ⟨rfl, (by with_reducible repeat' (first | exact Ext.refl _ | assumption | refine Ext.drewN ?_ _ | refine Ext.drew ?_ | refine Ext.alloc ?_ _ | refine Ext.trans ?_ (by with_reducible assumption)))⟩
 ·by_cases h2 : 64 < x.people.length
  ·have R : Hid (bigWishB x = true) := by show _ = _; simp [bigWishB, h2]
   go_enter Tryz.func63, Tryz.ntmps63
   go_wp2
   go_ret
   rw [R.out]
   exact ⟨rfl, (by with_reducible repeat' (first | exact Ext.refl _ | assumption | refine Ext.drewN ?_ _ | refine Ext.drew ?_ | refine Ext.alloc ?_ _ | refine Ext.trans ?_ (by with_reducible assumption)))⟩
  ·have R : Hid ((x.opts.any fun o => decide (64 < o.spans.length)) = bigWishB x) := by show _ = _; simp [bigWishB, h1, h2]
   have d1 : decide ((16 : Int) < (x.opts.length : Int)) = false := by simp; omega
   have d2 : decide ((64 : Int) < (x.people.length : Int)) = false := by simp; omega
   go_enter Tryz.func63, Tryz.ntmps63
   go_wp2_with fail
   refine (hcall.out _ (by with_reducible repeat' (first | exact Ext.refl _ | assumption | refine Ext.drewN ?_ _ | refine Ext.drew ?_ | refine Ext.alloc ?_ _ | refine Ext.trans ?_ (by with_reducible assumption)))).mono ?_
   rintro e w1 ⟨rfl, hx⟩
   rw [R.out]
   go_wp2
   go_ret
   exact ⟨rfl, ((Ext.refl _).alloc _).trans hx⟩

theorem tooLarge_calls (wv : Value) (t : List WishD) (w : World) (h : Wishes w wv t) :
  Calls Tryz.prog 37 #[.agg #[wv]] w fun e w' => e = .returned (.bool (tooLargeB t)) ∧ Ext w w' := by
 obtain ⟨a, c, rfl⟩ := h.form
 have lt := h.len
 have hcall : Hid (∀ W, Ext w W → Calls Tryz.prog 62 #[.slice a t.length c, .func (.func 63) #[] #[]] W fun e w' => e = .returned (.bool (t.any bigWishB)) ∧ Ext W w') :=
  fun W hW => containsFunc_wish_calls _ _ _ (fun _ _ => by kernel_rfl) _ _ (h.ext hW) (fun s _ W _ v hv => tooLarge1_calls v s W hv)
 clear h
 by_cases h1 : 512 < t.length
 ·have R : Hid (tooLargeB t = true) := by show _ = _; simp [tooLargeB, h1]
  go_enter Tryz.func37, Tryz.ntmps37
  go_wp2
  go_ret
  rw [R.out]
  exact ⟨rfl, (by with_reducible repeat' (first | exact Ext.refl _ | assumption | refine Ext.drewN ?_ _ | refine Ext.drew ?_ | refine Ext.alloc ?_ _ | refine Ext.trans ?_ (by with_reducible assumption)))⟩
 ·have R : Hid (t.any bigWishB = tooLargeB t) := by show _ = _; simp only [tooLargeB, h1]; rfl
  have d1 : decide ((512 : Int) < (t.length : Int)) = false := by simp; omega
  go_enter Tryz.func37, Tryz.ntmps37
  go_wp2_with fail
  refine (hcall.out _ (by with_reducible repeat' (first | exact Ext.refl _ | assumption | refine Ext.drewN ?_ _ | refine Ext.drew ?_ | refine Ext.alloc ?_ _ | refine Ext.trans ?_ (by with_reducible assumption)))).mono ?_
  rintro e w1 ⟨rfl, hx⟩
  rw [R.out]
  go_wp2
  go_ret
  exact ⟨rfl, ((Ext.refl _).alloc _).trans hx⟩

/-! ### least -/
theorem min_ite (n h : Int) : (if h < n then h else n) = min n h := by rw [Int.min_def]; split <;> split <;> omega
theorem leastN_drop {l : List OptD} {i : Nat} {o : OptD} (d : l.drop i = o :: l.drop (i + 1)) (n : Int) : leastN (l.drop i) n = leastN (l.drop (i + 1)) (min n o.harm) := by
 rw [d]; rfl

set_option maxHeartbeats 400000 in
theorem least_calls (v : Value) (x : WishD) (w : World) (h : WishV w v x) :
  Calls Tryz.prog 22 #[v] w fun e w' => e = .returned (.int .i64 (leastB x)) ∧ Ext w w' := by
 obtain ⟨pv, ov, rfl, hp, ho⟩ := h
 obtain ⟨pa, pc, rfl⟩ := hp.form
 obtain ⟨oa, oc, rfl, hn, hc, hat⟩ := ho.open
 clear hp ho
 go_enter Tryz.func22, Tryz.ntmps22
 go_wp2_with fail
 go_loopw [3, 9] (fun vn vi wr => ∃ (i : Nat) (n : Int), i ≤ x.opts.length ∧ vi = .int .i64 i ∧ vn = .int .i64 n ∧ Ext w wr ∧ Hid (leastB x = leastN (x.opts.drop i) n)) (fun _ vi _ => x.opts.length - (intOf vi).toNat)
 case atStart => exact ⟨0, 1000000, by omega, rfl, rfl, (by with_reducible repeat' (first | exact Ext.refl _ | assumption | refine Ext.drewN ?_ _ | refine Ext.drew ?_ | refine Ext.alloc ?_ _ | refine Ext.trans ?_ (by with_reducible assumption))), rfl⟩
 case round =>
  obtain ⟨i, n, hi, rfl, rfl, hx, hF⟩ := hrel
  by_cases h1 : i < x.opts.length
  ·obtain ⟨b1, o1, o, sa, sc, rfl, hb1, dx, ex, g1, g2, g3, gs⟩ := hat i h1 wr hx
   clear gs
   have R : Hid (leastB x = leastN (x.opts.drop (i + 1)) (min n o.harm)) := by show _ = _; rw [hF.out, leastN_drop dx.out]
   clear hF
   go_wp2
   go_roundw
   case rel => exact ⟨i + 1, min n o.harm, by omega, by go_num, by rw [min_ite], (by with_reducible repeat' (first | exact Ext.refl _ | assumption | refine Ext.drewN ?_ _ | refine Ext.drew ?_ | refine Ext.alloc ?_ _ | refine Ext.trans ?_ (by with_reducible assumption))), R⟩
   case measure => simp [intOf]; omega
  ·have R : Hid (leastB x = n) := by show _ = _; rw [hF.out, List.drop_of_length_le (by omega)]; rfl
   clear hF
   go_wp2
   go_ret
   rw [R.out]
   exact ⟨rfl, hx⟩

end Go.Proofs.YtepcdhpikpmepaaGreat

/- Walks of package plan: validWish, Valid. -/
namespace Go.Proofs.YtepcdhpikpmepaaGreat
open Go.RowKit

def prevP (l : List Int) (i : Nat) : Option Int := if i = 0 then none else l[i - 1]?
theorem prevP_zero (l : List Int) : prevP l 0 = none := rfl
theorem prevP_succ {l : List Int} {i : Nat} {x : Int} (h : l[i]? = some x) : prevP l (i + 1) = some x := by simp [prevP, h]
theorem prevP_pos {l : List Int} {i : Nat} {x : Int} (h : 0 < i) (hl : l[i - 1]? = some x) : prevP l i = some x := by
 simp only [prevP]; rw [if_neg (by omega), hl]
theorem peopleB_bad {l : List Int} {i : Nat} {x : Int} (d : l.drop i = x :: l.drop (i + 1)) (h : x < 0 ∨ 512 ≤ x) (p : Option Int) : peopleB p (l.drop i) = false := by
 rw [d]
 have : (decide (0 ≤ x) && decide (x < 512)) = false := by simp; omega
 cases p <;> simp only [peopleB, this] <;> rfl
theorem peopleB_step0 {l : List Int} {i : Nat} {x : Int} (d : l.drop i = x :: l.drop (i + 1)) (h : 0 ≤ x) (h' : x < 512) : peopleB none (l.drop i) = peopleB (some x) (l.drop (i + 1)) := by
 rw [d]; simp [peopleB, h, h']
theorem peopleB_step {l : List Int} {i : Nat} {x e : Int} (d : l.drop i = x :: l.drop (i + 1)) (h : 0 ≤ x) (h' : x < 512) (he : e < x) : peopleB (some e) (l.drop i) = peopleB (some x) (l.drop (i + 1)) := by
 rw [d]; simp [peopleB, h, h', he]
theorem peopleB_near {l : List Int} {i : Nat} {x e : Int} (d : l.drop i = x :: l.drop (i + 1)) (he : x ≤ e) : peopleB (some e) (l.drop i) = false := by
 rw [d]; simp [peopleB]; intro _ _ h'; omega

set_option maxHeartbeats 1600000 in
theorem validWish_calls (v : Value) (x : WishD) (w : World) (h : WishV w v x) :
  Calls Tryz.prog 38 #[v] w fun e w' => e = .returned (.bool (wishOkB x)) ∧ Ext w w' := by
 obtain ⟨pv, ov, rfl, hp, ho⟩ := h
 obtain ⟨pa, pc, rfl, hn, hc, hat⟩ := hp.open
 obtain ⟨oa, oc, rfl⟩ := ho.form
 have lo := ho.len
 have hcall : Hid (∀ W, Ext w W → Calls Tryz.prog 64 #[.slice oa x.opts.length oc, .func (.func 66) #[] #[]] W fun e w' => e = .returned (.bool (x.opts.any fun o => !optOkB o)) ∧ Ext W w') :=
  fun W hW => containsFunc_opt_calls _ _ _ (fun _ _ => by kernel_rfl) _ _ (ho.ext hW) (fun s _ W _ v hv => validWish1_calls v s W hv)
 clear hp ho
 go_enter Tryz.func38, Tryz.ntmps38
 go_wp2_with fail
 refine wp_abs (S := fun W => Ext w W ∧ W.cell? ⟨w.heap.size, 0, none⟩ = some (.int .i64 x.meeting) ∧ W.cell? ⟨w.heap.size, 1, none⟩ = some (.slice pa x.people.length pc) ∧ W.cell? ⟨w.heap.size, 2, none⟩ = some (.slice oa x.opts.length oc))
  ⟨(by with_reducible repeat' (first | exact Ext.refl _ | assumption | refine Ext.drewN ?_ _ | refine Ext.drew ?_ | refine Ext.alloc ?_ _ | refine Ext.trans ?_ (by with_reducible assumption))), by simp, by simp, by simp⟩ ?_
 rintro W1 ⟨hx1, c0, c1, c2⟩
 go_loopw [8] (fun vi wr => ∃ i : Nat, i ≤ x.people.length ∧ vi = .int .i64 i ∧ Ext W1 wr ∧ Hid (peopleB none x.people = peopleB (prevP x.people i) (x.people.drop i))) (fun vi _ => x.people.length - (intOf vi).toNat)
 case atStart => exact ⟨0, by omega, rfl, Ext.refl _, rfl⟩
 case round =>
  obtain ⟨i, hi, rfl, hx, hF⟩ := hrel
  have d0 := hx.cell c0
  have d1 := hx.cell c1
  have d2 := hx.cell c2
  have hxw := hx1.trans hx
  clear c0 c1 c2
  by_cases h1 : i < x.people.length
  ·obtain ⟨b1, o1, p, rfl, hb1, dx, ex, g1⟩ := hat i h1 wr hxw
   by_cases h2 : p < 0
   ·have R : Hid (wishOkB x = false) := by show _ = _; rw [wishOkB, hF.out, peopleB_bad dx.out (Or.inl h2)]; rfl
    clear hF hat
    go_wp2
    go_ret
    rw [R.out]
    exact ⟨rfl, hxw⟩
   ·by_cases h3 : 512 ≤ p
    ·have R : Hid (wishOkB x = false) := by show _ = _; rw [wishOkB, hF.out, peopleB_bad dx.out (Or.inr h3)]; rfl
     clear hF hat
     go_wp2
     go_ret
     rw [R.out]
     exact ⟨rfl, hxw⟩
    ·by_cases h4 : i = 0
     ·have R : Hid (peopleB none x.people = peopleB (prevP x.people (i + 1)) (x.people.drop (i + 1))) := by
       show _ = _
       rw [hF.out, prevP_succ ex.out, h4, prevP_zero, peopleB_step0 (by have := dx.out; rwa [h4] at this) (by omega) (by omega)]
      have hd3 : decide (0 < i) = false := by simp; omega
      clear hF h4 hat
      go_wp2
      go_roundw
      case rel => exact ⟨i + 1, by omega, by go_num, hx, R⟩
      case measure => simp [intOf]; omega
     ·obtain ⟨b2, o2, p0, e2, hb2, dx0, ex0, g3⟩ := hat (i - 1) (by omega) wr hxw
      cases e2
      have hp' := Lib.hid (prevP_pos (by omega) ex0.out)
      clear hb2 dx0 ex0 hat
      have hd3 : decide (0 < i) = true := by simp; omega
      have hi1 : 1 ≤ i := by omega
      have hi2 : (1 : Int) ≤ (i : Int) := by omega
      have hi3 : (i : Int) - 1 < (x.people.length : Int) := by omega
      by_cases h5 : p ≤ p0
      ·have R : Hid (wishOkB x = false) := by show _ = _; rw [wishOkB, hF.out, hp'.out, peopleB_near dx.out h5]; rfl
       clear hF h4
       go_wp2
       go_ret
       rw [R.out]
       exact ⟨rfl, hxw⟩
      ·have R : Hid (peopleB none x.people = peopleB (prevP x.people (i + 1)) (x.people.drop (i + 1))) := by
        show _ = _
        rw [hF.out, prevP_succ ex.out, hp'.out, peopleB_step dx.out (by omega) (by omega) (by omega)]
       have hd5 : decide (p ≤ p0) = false := by simpa using h5
       clear hF h4
       go_wp2
       go_roundw
       case rel => exact ⟨i + 1, by omega, by go_num, hx, R⟩
       case measure => simp [intOf]; omega
  ·have hP : peopleB none x.people = true := by rw [hF.out, List.drop_of_length_le (by omega)]; cases prevP x.people i <;> rfl
   by_cases h2 : 1 ≤ x.meeting
   ·by_cases h3 : 0 < x.opts.length
    ·have R : Hid ((!x.opts.any fun o => !optOkB o) = wishOkB x) := by show _ = _; rw [wishOkB, hP, List.not_any_eq_all_not]; simp [h2, h3]
     clear hF hP hat
     have d3 : decide (0 < x.opts.length) = true := by simpa using h3
     go_wp2_with fail
     refine (hcall.out _ hxw).mono ?_
     rintro e w1 ⟨rfl, hx2⟩
     go_wp2
     go_ret
     rw [R.out]
     exact ⟨rfl, hxw.trans hx2⟩
    ·have R : Hid (wishOkB x = false) := by show _ = _; simp [wishOkB, h3]
     clear hF hP hat
     have d3 : decide (0 < x.opts.length) = false := by simpa using h3
     go_wp2
     go_ret
     rw [R.out]
     exact ⟨rfl, hxw⟩
   ·have R : Hid (wishOkB x = false) := by show _ = _; simp [wishOkB, h2]
    clear hF hP hat
    go_wp2
    go_ret
    rw [R.out]
    exact ⟨rfl, hxw⟩

end Go.Proofs.YtepcdhpikpmepaaGreat

/- Walk of package plan: Valid. -/
namespace Go.Proofs.YtepcdhpikpmepaaGreat
open Go.RowKit

def prevM (l : List WishD) (i : Nat) : Option Int := if i = 0 then none else l[i - 1]?.map (·.meeting)
theorem prevM_zero (l : List WishD) : prevM l 0 = none := rfl
theorem prevM_succ {l : List WishD} {i : Nat} {x : WishD} (h : l[i]? = some x) : prevM l (i + 1) = some x.meeting := by simp [prevM, h]
theorem prevM_pos {l : List WishD} {i : Nat} {x : WishD} (h : 0 < i) (hl : l[i - 1]? = some x) : prevM l i = some x.meeting := by
 simp only [prevM]; rw [if_neg (by omega), hl]; rfl
theorem wishesB_bad {l : List WishD} {i : Nat} {x : WishD} (d : l.drop i = x :: l.drop (i + 1)) (h : wishOkB x = false) (p : Option Int) : wishesB p (l.drop i) = false := by
 rw [d]; cases p <;> simp only [wishesB, h] <;> rfl
theorem wishesB_step0 {l : List WishD} {i : Nat} {x : WishD} (d : l.drop i = x :: l.drop (i + 1)) (h : wishOkB x = true) : wishesB none (l.drop i) = wishesB (some x.meeting) (l.drop (i + 1)) := by
 rw [d]; simp [wishesB, h]
theorem wishesB_step {l : List WishD} {i : Nat} {x : WishD} {e : Int} (d : l.drop i = x :: l.drop (i + 1)) (h : wishOkB x = true) (he : e < x.meeting) : wishesB (some e) (l.drop i) = wishesB (some x.meeting) (l.drop (i + 1)) := by
 rw [d]; simp [wishesB, h, he]
theorem wishesB_near {l : List WishD} {i : Nat} {x : WishD} {e : Int} (d : l.drop i = x :: l.drop (i + 1)) (he : x.meeting ≤ e) : wishesB (some e) (l.drop i) = false := by
 rw [d]; simp [wishesB]; intro _ h'; omega

set_option maxHeartbeats 1600000 in
theorem valid_calls (wv : Value) (t : List WishD) (w : World) (h : Wishes w wv t) :
  Calls Tryz.prog 17 #[.agg #[wv]] w fun e w' => e = .returned (.int .i64 (validT t)) ∧ Ext w w' := by
 have hT := Lib.hid h
 obtain ⟨a, c, rfl, hn, hc, hat⟩ := h.open
 clear h
 cases hb : tooLargeB t with
 | true =>
  have R : Hid (validT t = 2) := by show _ = _; simp [validT, hb]
  have hb' := Lib.hid hb
  clear hb
  go_enter Tryz.func17, Tryz.ntmps17
  go_wp2_with fail
  refine (tooLarge_calls _ t _ (hT.out.ext (by with_reducible repeat' (first | exact Ext.refl _ | assumption | refine Ext.drewN ?_ _ | refine Ext.drew ?_ | refine Ext.alloc ?_ _ | refine Ext.trans ?_ (by with_reducible assumption))))).mono ?_
  rintro e w1 ⟨rfl, hx1⟩
  rw [hb'.out]
  go_wp2
  go_ret
  rw [R.out]
  exact ⟨rfl, ((Ext.refl _).alloc _).trans hx1⟩
 | false =>
  have R0 : Hid (validT t = if wishesB none t && decide (0 < t.length) then 0 else 1) := by show _ = _; simp [validT, hb]
  have hb' := Lib.hid hb
  clear hb
  go_enter Tryz.func17, Tryz.ntmps17
  go_wp2_with fail
  refine (tooLarge_calls _ t _ (hT.out.ext (by with_reducible repeat' (first | exact Ext.refl _ | assumption | refine Ext.drewN ?_ _ | refine Ext.drew ?_ | refine Ext.alloc ?_ _ | refine Ext.trans ?_ (by with_reducible assumption))))).mono ?_
  rintro e w1 ⟨rfl, hx1⟩
  rw [hb'.out]
  have c0 : w1.cell? ⟨w.heap.size, 0, none⟩ = some (.slice a t.length c) := hx1.cell (by simp)
  have hxw := ((Ext.refl w).alloc (.cells #[.slice a t.length c] 28)).trans hx1
  clear hx1
  go_wp2_with fail
  go_loopw [10] (fun vi wr => ∃ i : Nat, i ≤ t.length ∧ vi = .int .i64 i ∧ Ext w1 wr ∧ Hid (wishesB none t = wishesB (prevM t i) (t.drop i))) (fun vi _ => t.length - (intOf vi).toNat)
  case atStart => exact ⟨0, by omega, rfl, Ext.refl _, rfl⟩
  case round =>
   obtain ⟨i, hi, rfl, hx, hF⟩ := hrel
   have d0 := hx.cell c0
   have hxr := hxw.trans hx
   by_cases h1 : i < t.length
   ·obtain ⟨b1, o1, x, pa, pc, oa, oc, rfl, hb1, dx, ex, g1, g2, g3, gp, go⟩ := hat i h1 wr hxr
    have hB : w.heap.size < wr.heap.size := World.block_lt_of_cell? _ _ d0
    have prev : i = 0 ∨ ∃ (o0 : Nat) (x0 : WishD), 0 < i ∧ o0 = o1 + (i - 1) * 3 ∧ Hid (prevM t i = some x0.meeting) ∧ wr.cell? ⟨b1, o0, none⟩ = some (.int .i64 x0.meeting) := by
     by_cases h4 : i = 0
     ·exact Or.inl h4
     ·obtain ⟨b2, o2, x0, _, _, _, _, e2, _, _, ex0, g4, _⟩ := hat (i - 1) (by omega) wr hxr
      cases e2
      exact Or.inr ⟨_, x0, by omega, rfl, prevM_pos (by omega) ex0.out, g4⟩
    clear hat
    have hv : Hid (∀ W, Ext wr W → Calls Tryz.prog 38 #[.agg #[.int .i64 x.meeting, .slice pa x.people.length pc, .slice oa x.opts.length oc]] W fun e w' => e = .returned (.bool (wishOkB x)) ∧ Ext W w') :=
     fun W hW => validWish_calls _ x W ⟨_, _, rfl, gp.ext hW, go.ext hW⟩
    clear gp go
    go_wp2_with fail
    refine wp_abs (S := fun W => Ext wr W ∧ W.cell? ⟨wr.heap.size, 0, none⟩ = some (.int .i64 x.meeting) ∧ W.cell? ⟨wr.heap.size, 1, none⟩ = some (.slice pa x.people.length pc) ∧ W.cell? ⟨wr.heap.size, 2, none⟩ = some (.slice oa x.opts.length oc))
     ⟨(by with_reducible repeat' (first | exact Ext.refl _ | assumption | refine Ext.drewN ?_ _ | refine Ext.drew ?_ | refine Ext.alloc ?_ _ | refine Ext.trans ?_ (by with_reducible assumption))), by simp, by simp, by simp⟩ ?_
    rintro W2 ⟨hx2, k0, k1, k2⟩
    have a0 := After.cell k0
    have a1 := After.cell k1
    have a2 := After.cell k2
    have b0 := After.cell (hx2.cell d0)
    clear k0 k1 k2 d0
    cases hok : wishOkB x with
    | false =>
     have R : Hid (validT t = 1) := by show _ = _; rw [R0.out, hF.out, wishesB_bad dx.out hok]; rfl
     rw [hok] at hv
     have hok' := Lib.hid hok
     clear hok hF prev
     refine wp_region_after (by kernel_rfl) (by kernel_rfl) ?_
     repeat (go_big_quiet_step (exact After.call _ (hv.out _ (hx2.trans (After.ext _)))))
     refine wpQuiet_nil ?_
     rintro _ ⟨y, rfl⟩
     go_wp2
     go_ret
     rw [R.out]
     exact ⟨rfl, (hxr.trans hx2).trans y.ext⟩
    | true =>
     rw [hok] at hv
     rcases prev with h4 | ⟨o0, x0, hpos, ho0, hpm, g4⟩
     ·have R : Hid (wishesB none t = wishesB (prevM t (i + 1)) (t.drop (i + 1))) := by
       show _ = _
       rw [hF.out, prevM_succ ex.out, h4, prevM_zero, wishesB_step0 (by have := dx.out; rwa [h4] at this) hok]
      have hok' := Lib.hid hok
      have hd3 : decide (0 < i) = false := by simp; omega
      clear hok hF h4
      refine wp_region_after (by kernel_rfl) (by kernel_rfl) ?_
      repeat (go_big_quiet_step (exact After.call _ (hv.out _ (hx2.trans (After.ext _)))))
      refine wpQuiet_nil ?_
      rintro _ ⟨y, rfl⟩
      go_wp2
      go_roundw
      case rel => exact ⟨i + 1, by omega, by go_num, (hx.trans hx2).trans y.ext, R⟩
      case measure => simp [intOf]; omega
     ·have b1' := After.cell (hx2.cell g4)
      subst ho0
      have hd3 : decide (0 < i) = true := by simp; omega
      have hi1 : 1 ≤ i := by omega
      have hi2 : (1 : Int) ≤ (i : Int) := by omega
      have hi3 : (i : Int) - 1 < (t.length : Int) := by omega
      clear g4
      by_cases h5 : x.meeting ≤ x0.meeting
      ·have R : Hid (validT t = 1) := by show _ = _; rw [R0.out, hF.out, hpm.out, wishesB_near dx.out h5]; rfl
       have hd5 : decide (x.meeting ≤ x0.meeting) = true := by simpa using h5
       have hok' := Lib.hid hok
       clear hok hF hpm
       refine wp_region_after (by kernel_rfl) (by kernel_rfl) ?_
       repeat (go_big_quiet_step (exact After.call _ (hv.out _ (hx2.trans (After.ext _)))))
       refine wpQuiet_nil ?_
       rintro _ ⟨y, rfl⟩
       go_wp2
       go_ret
       rw [R.out]
       exact ⟨rfl, (hxr.trans hx2).trans y.ext⟩
      ·have R : Hid (wishesB none t = wishesB (prevM t (i + 1)) (t.drop (i + 1))) := by
        show _ = _
        rw [hF.out, prevM_succ ex.out, hpm.out, wishesB_step dx.out hok (by omega)]
       have hd5 : decide (x.meeting ≤ x0.meeting) = false := by simpa using h5
       have hok' := Lib.hid hok
       clear hok hF hpm
       refine wp_region_after (by kernel_rfl) (by kernel_rfl) ?_
       repeat (go_big_quiet_step (exact After.call _ (hv.out _ (hx2.trans (After.ext _)))))
       refine wpQuiet_nil ?_
       rintro _ ⟨y, rfl⟩
       go_wp2
       go_roundw
       case rel => exact ⟨i + 1, by omega, by go_num, (hx.trans hx2).trans y.ext, R⟩
       case measure => simp [intOf]; omega
   ·have hW : wishesB none t = true := by rw [hF.out, List.drop_of_length_le (by omega)]; cases prevM t i <;> rfl
    by_cases h0 : t.length = 0
    ·have R : Hid (validT t = 1) := by show _ = _; rw [R0.out, hW, h0]; rfl
     have hd : ((t.length : Int) == 0) = true := by rw [beq_iff_eq]; omega
     clear hF hW hat h0
     go_wp2
     go_ret
     rw [R.out]
     exact ⟨rfl, hxr⟩
    ·have R : Hid (validT t = 0) := by show _ = _; rw [R0.out, hW, decide_eq_true (show 0 < t.length by omega)]; rfl
     have hd : ((t.length : Int) == 0) = false := by rw [beq_eq_false_iff_ne]; omega
     clear hF hW hat h0
     go_wp2
     go_ret
     rw [R.out]
     exact ⟨rfl, hxr⟩

end Go.Proofs.YtepcdhpikpmepaaGreat
