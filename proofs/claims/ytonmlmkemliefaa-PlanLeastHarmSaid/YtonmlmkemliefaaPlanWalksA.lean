/- Walks of package plan's small functions: common, meet, index, validOption, least; slices.IndexFunc, ContainsFunc at options. -/
import Derived.Test.YtonmlmkemliefaaSpanWalks
namespace Go.Proofs.Ytonmlmkemliefaa
open Go.RowKit

theorem index_calls (i n : Int) (w : World) : Calls Try.prog 53 #[.int .i64 i, .int .i64 n] w fun e w' => e = .returned (.bool (idxB i n)) ∧ Ext w w' := by
  by_cases h : 0 ≤ i ∧ i < n
  · have R : Hid (idxB i n = true) := by show _ = _; simpa [idxB] using h
    obtain ⟨h1, h2⟩ := h
    go_enter Try.func53, Try.ntmps53
    go_wp2
    go_ret
    rw [R.out]
    exact ⟨rfl, Ext.refl _⟩
  · have R : Hid (idxB i n = false) := by show _ = _; simpa [idxB] using h
    by_cases h1 : 0 ≤ i
    · have h2 : decide (i < n) = false := by simp; omega
      clear h
      go_enter Try.func53, Try.ntmps53
      go_wp2
      go_ret
      rw [R.out]
      exact ⟨rfl, Ext.refl _⟩
    · clear h
      go_enter Try.func53, Try.ntmps53
      go_wp2
      go_ret
      rw [R.out]
      exact ⟨rfl, Ext.refl _⟩

theorem any_ext {α : Type} {l : List α} {f g : α → Bool} (h : ∀ x ∈ l, f x = g x) : l.any f = l.any g := by
  induction l with
  | nil => rfl
  | cons a l ih => simp only [List.any_cons]; rw [h a List.mem_cons_self, ih fun x hx => h x (List.mem_cons_of_mem _ hx)]

def Inc (l : List Int) : Prop := l.Pairwise (· < ·)
theorem Inc.drop {l : List Int} (h : Inc l) (i : Nat) : Inc (l.drop i) := List.Pairwise.sublist (List.drop_sublist i l) h
theorem share_eq {a b a' b' : List Int} {x : Int} (ha : a = x :: a') (hb : b = x :: b') : shareB a b = true := by
  subst ha hb; simp [shareB]
theorem share_lt {a b a' b' : List Int} {x y : Int} (ha : a = x :: a') (hb : b = y :: b') (hs : Inc b) (h : x < y) : shareB a b = shareB a' b := by
  subst ha hb
  have : x ∉ (y :: b') := by
    intro hm
    rcases List.mem_cons.1 hm with rfl | hm
    · omega
    · have := (List.pairwise_cons.1 hs).1 x hm; omega
  simp only [shareB, List.any_cons]
  rw [show (y :: b').contains x = false by simpa using this]; rfl
theorem share_gt {a b a' b' : List Int} {x y : Int} (ha : a = x :: a') (hb : b = y :: b') (hs : Inc a) (h : y < x) : shareB a b = shareB a b' := by
  subst ha hb
  have : ∀ z ∈ x :: a', z ≠ y := by
    intro z hz e
    rcases List.mem_cons.1 hz with rfl | hm
    · omega
    · have := (List.pairwise_cons.1 hs).1 z hm; omega
  unfold shareB
  generalize x :: a' = l at this
  induction l with
  | nil => rfl
  | cons z l ih =>
    simp only [List.any_cons]
    rw [ih (fun u hu => this u (List.mem_cons_of_mem _ hu))]
    have hz := this z List.mem_cons_self
    rw [show (y :: b').contains z = b'.contains z by simp [hz]]
theorem share_nil_left (b : List Int) : shareB [] b = false := rfl
theorem share_nil_right (a : List Int) : shareB a [] = false := by simp [shareB]

set_option maxHeartbeats 1000000 in
theorem common_calls (va vb : Value) (a b : List Int) (w : World) (ha : Ints w va a) (hb : Ints w vb b) (sa : Inc a) (sb : Inc b) :
    Calls Try.prog 77 #[va, vb] w fun e w' => e = .returned (.bool (shareB a b)) ∧ Ext w w' := by
  obtain ⟨aa, ca, rfl, hna, hca, hca'⟩ := ha.open
  obtain ⟨ab, cb, rfl, hnb, hcb, hcb'⟩ := hb.open
  clear ha hb
  have sa' := Lib.hid sa
  have sb' := Lib.hid sb
  clear sa sb
  go_enter Try.func77, Try.ntmps77
  go_wp2_with fail
  go_loopw [5, 6] (fun vi vk wr => ∃ i k : Nat, i ≤ a.length ∧ k ≤ b.length ∧ vi = .int .i64 i ∧ vk = .int .i64 k ∧ Ext w wr ∧
      Hid (shareB a b = shareB (a.drop i) (b.drop k))) (fun vi vk _ => a.length + b.length - (intOf vi).toNat - (intOf vk).toNat)
  case atStart => exact ⟨0, 0, by omega, by omega, rfl, rfl, Ext.refl _, rfl⟩
  case round =>
    obtain ⟨i, k, hi, hk, rfl, rfl, hx, hF⟩ := hrel
    by_cases h1 : i < a.length
    · by_cases h2 : k < b.length
      · obtain ⟨b1, o1, x, rfl, hb1, dx, ex, g1⟩ := hca' i h1 wr hx
        obtain ⟨b2, o2, y, rfl, hb2, dy, ey, g2⟩ := hcb' k h2 wr hx
        clear hca' hcb'
        by_cases h3 : (x == y) = true
        · have R : Hid (shareB a b = true) := hF.out.trans (share_eq dx.out (by rw [eq_of_beq h3]; exact dy.out))
          go_wp2_with fail
          go_quiet (fail)
          go_wp2
          go_ret
          rw [R.out]
          exact ⟨rfl, (by repeat' (first | (with_reducible exact Ext.refl _) | (with_reducible assumption) | (with_reducible refine Ext.drewN ?_ _) | (with_reducible refine Ext.drew ?_) | (with_reducible refine Ext.alloc ?_ _) | (with_reducible refine Ext.trans ?_ (by with_reducible assumption))))⟩
        · have h3 : (x == y) = false := by simpa using h3
          by_cases h4 : x < y
          · have R : Hid (shareB a b = shareB (a.drop (i + 1)) (b.drop k)) := hF.out.trans (share_lt dx.out dy.out (sb'.out.drop k) h4)
            go_wp2_with fail
            go_quiet (fail)
            go_wp2_with fail
            go_quiet (fail)
            go_wp2
            go_roundw
            case rel => exact ⟨i + 1, k, by omega, by omega, by go_num, rfl, (by repeat' (first | (with_reducible exact Ext.refl _) | (with_reducible assumption) | (with_reducible refine Ext.drewN ?_ _) | (with_reducible refine Ext.drew ?_) | (with_reducible refine Ext.alloc ?_ _) | (with_reducible refine Ext.trans ?_ (by with_reducible assumption)))), R⟩
            case measure => simp [intOf]; omega
          · have h5 : y < x := by have : ¬ x = y := by simpa using h3
                                  omega
            have R : Hid (shareB a b = shareB (a.drop i) (b.drop (k + 1))) := hF.out.trans (share_gt dx.out dy.out (sa'.out.drop i) h5)
            go_wp2_with fail
            go_quiet (fail)
            go_wp2_with fail
            go_quiet (fail)
            go_wp2
            go_roundw
            case rel => exact ⟨i, k + 1, by omega, by omega, rfl, by go_num, (by repeat' (first | (with_reducible exact Ext.refl _) | (with_reducible assumption) | (with_reducible refine Ext.drewN ?_ _) | (with_reducible refine Ext.drew ?_) | (with_reducible refine Ext.alloc ?_ _) | (with_reducible refine Ext.trans ?_ (by with_reducible assumption)))), R⟩
            case measure => simp [intOf]; omega
      · have R : Hid (shareB a b = false) := by
          refine hF.out.trans ?_
          rw [List.drop_of_length_le (l := b) (by omega)]; exact share_nil_right _
        clear hF hca' hcb'
        go_wp2
        go_ret
        rw [R.out]
        exact ⟨rfl, hx⟩
    · have R : Hid (shareB a b = false) := by
        refine hF.out.trans ?_
        rw [List.drop_of_length_le (l := a) (by omega)]; exact share_nil_left _
      clear hF hca' hcb'
      go_wp2
      go_ret
      rw [R.out]
      exact ⟨rfl, hx⟩

/-! ### meet -/
/-- each span is not empty and ends before the next one begins -/
def Chain (l : List (Int × Int)) : Prop := l.Pairwise (fun s t => s.2 < t.1) ∧ ∀ s ∈ l, s.1 < s.2
theorem Chain.drop {l : List (Int × Int)} (h : Chain l) (i : Nat) : Chain (l.drop i) :=
  ⟨List.Pairwise.sublist (List.drop_sublist i l) h.1, fun s hs => h.2 s (List.mem_of_mem_drop hs)⟩
theorem meet_nil_left (b : List (Int × Int)) : meetB [] b = false := rfl
theorem meet_nil_right (a : List (Int × Int)) : meetB a [] = false := by simp [meetB]
theorem meet_yes {a b a' b' : List (Int × Int)} {x y p q : Int} (ha : a = (x, y) :: a') (hb : b = (p, q) :: b') (h1 : p < y) (h2 : x < q) : meetB a b = true := by
  subst ha hb; simp [meetB]; left; left; omega
theorem meet_left {a b a' b' : List (Int × Int)} {x y p q : Int} (ha : a = (x, y) :: a') (hb : b = (p, q) :: b') (hs : Chain b) (h1 : y ≤ p) : meetB a b = meetB a' b := by
  subst ha
  simp only [meetB, List.any_cons]
  rw [show (b.any fun t => decide ((x, y).1 < t.2) && decide (t.1 < (x, y).2)) = false from ?_]
  · rfl
  rw [List.any_eq_false]
  intro t ht
  have : p ≤ t.1 := by
    subst hb
    rcases List.mem_cons.1 ht with rfl | hm
    · simp
    · have h2 := (List.pairwise_cons.1 hs.1).1 t hm
      have h3 := hs.2 (p, q) List.mem_cons_self
      simp at h2 h3; omega
  simp; intro _; omega
theorem meet_right {a b a' b' : List (Int × Int)} {x y p q : Int} (ha : a = (x, y) :: a') (hb : b = (p, q) :: b') (hs : Chain a) (h1 : q ≤ x) : meetB a b = meetB a b' := by
  subst hb
  have key : ∀ t ∈ a, x ≤ t.1 := by
    intro t ht
    subst ha
    rcases List.mem_cons.1 ht with rfl | hm
    · simp
    · have h2 := (List.pairwise_cons.1 hs.1).1 t hm
      have h3 := hs.2 (x, y) List.mem_cons_self
      simp at h2 h3; omega
  unfold meetB
  refine any_ext fun z hz => ?_
  have hz := key z hz
  simp only [List.any_cons]
  rw [show (decide (z.1 < (p, q).2) && decide ((p, q).1 < z.2)) = false by simp; intro h; omega]
  rfl

set_option maxHeartbeats 1000000 in
theorem meet_calls (va vb : Value) (a b : List (Int × Int)) (w : World) (ha : Spans w va a) (hb : Spans w vb b) (sa : Chain a) (sb : Chain b) :
    Calls Try.prog 78 #[va, vb] w fun e w' => e = .returned (.bool (meetB a b)) ∧ Ext w w' := by
  obtain ⟨aa, ca, rfl, hna, hca, hca'⟩ := ha.open
  obtain ⟨ab, cb, rfl, hnb, hcb, hcb'⟩ := hb.open
  clear ha hb
  have sa' := Lib.hid sa
  have sb' := Lib.hid sb
  clear sa sb
  go_enter Try.func78, Try.ntmps78
  go_wp2_with fail
  go_loopw [5, 6] (fun vi vk wr => ∃ i k : Nat, i ≤ a.length ∧ k ≤ b.length ∧ vi = .int .i64 i ∧ vk = .int .i64 k ∧ Ext w wr ∧
      Hid (meetB a b = meetB (a.drop i) (b.drop k))) (fun vi vk _ => a.length + b.length - (intOf vi).toNat - (intOf vk).toNat)
  case atStart => exact ⟨0, 0, by omega, by omega, rfl, rfl, Ext.refl _, rfl⟩
  case round =>
    obtain ⟨i, k, hi, hk, rfl, rfl, hx, hF⟩ := hrel
    by_cases h1 : i < a.length
    · by_cases h2 : k < b.length
      · obtain ⟨b1, o1, x, y, rfl, hb1, dx, ex, g1, g1'⟩ := hca' i h1 wr hx
        obtain ⟨b2, o2, p, q, rfl, hb2, dy, ey, g2, g2'⟩ := hcb' k h2 wr hx
        clear hca' hcb'
        by_cases h3 : y ≤ p
        · have R : Hid (meetB a b = meetB (a.drop (i + 1)) (b.drop k)) := hF.out.trans (meet_left dx.out dy.out (sb'.out.drop k) h3)
          go_wp2_with fail
          go_quiet (fail)
          go_wp2
          go_roundw
          case rel => exact ⟨i + 1, k, by omega, by omega, by go_num, rfl, (by repeat' (first | (with_reducible exact Ext.refl _) | (with_reducible assumption) | (with_reducible refine Ext.drewN ?_ _) | (with_reducible refine Ext.drew ?_) | (with_reducible refine Ext.alloc ?_ _) | (with_reducible refine Ext.trans ?_ (by with_reducible assumption)))), R⟩
          case measure => simp [intOf]; omega
        · by_cases h4 : q ≤ x
          · have R : Hid (meetB a b = meetB (a.drop i) (b.drop (k + 1))) := hF.out.trans (meet_right dx.out dy.out (sa'.out.drop i) h4)
            go_wp2_with fail
            go_quiet (fail)
            go_wp2_with fail
            go_quiet (fail)
            go_wp2
            go_roundw
            case rel => exact ⟨i, k + 1, by omega, by omega, rfl, by go_num, (by repeat' (first | (with_reducible exact Ext.refl _) | (with_reducible assumption) | (with_reducible refine Ext.drewN ?_ _) | (with_reducible refine Ext.drew ?_) | (with_reducible refine Ext.alloc ?_ _) | (with_reducible refine Ext.trans ?_ (by with_reducible assumption)))), R⟩
            case measure => simp [intOf]; omega
          · have R : Hid (meetB a b = true) := hF.out.trans (meet_yes dx.out dy.out (by omega) (by omega))
            go_wp2_with fail
            go_quiet (fail)
            go_wp2_with fail
            go_quiet (fail)
            go_wp2
            go_ret
            rw [R.out]
            exact ⟨rfl, (by repeat' (first | (with_reducible exact Ext.refl _) | (with_reducible assumption) | (with_reducible refine Ext.drewN ?_ _) | (with_reducible refine Ext.drew ?_) | (with_reducible refine Ext.alloc ?_ _) | (with_reducible refine Ext.trans ?_ (by with_reducible assumption))))⟩
      · have R : Hid (meetB a b = false) := by
          refine hF.out.trans ?_
          rw [List.drop_of_length_le (l := b) (by omega)]; exact meet_nil_right _
        clear hF hca' hcb'
        go_wp2
        go_ret
        rw [R.out]
        exact ⟨rfl, hx⟩
    · have R : Hid (meetB a b = false) := by
        refine hF.out.trans ?_
        rw [List.drop_of_length_le (l := a) (by omega)]; exact meet_nil_left _
      clear hF hca' hcb'
      go_wp2
      go_ret
      rw [R.out]
      exact ⟨rfl, hx⟩

/-! ### options -/
theorem validOption_calls (v : Value) (o : OptD) (w : World) (h : OptV w v o) :
    Calls Try.prog 75 #[v] w fun e w' => e = .returned (.bool (optOkB o)) ∧ Ext w w' := by
  obtain ⟨sv, rfl, hs⟩ := h
  obtain ⟨a, c, rfl⟩ := hs.form
  obtain ⟨hm, r, sp⟩ := o
  dsimp only at *
  by_cases hc : 0 ≤ hm ∧ hm ≤ 1000000 ∧ -1 ≤ r ∧ r < 256
  · obtain ⟨h1, h2, h3, h4⟩ := hc
    have R : Hid (normalB sp = optOkB ⟨hm, r, sp⟩) := by show _ = _; simp [optOkB, h1, h2, h3, h4]
    have hcall : Hid (∀ W, Ext w W → Calls Try.prog 87 #[.slice a sp.length c] W fun e w' => e = .returned (.bool (normalB sp)) ∧ Ext W w') := fun W hW => spanValid_calls _ _ _ (hs.ext hW)
    clear hs
    go_enter Try.func75, Try.ntmps75
    go_wp2_with fail
    refine (hcall.out _ ((Ext.refl _).alloc _)).mono ?_
    rintro e w1 ⟨rfl, hx⟩
    go_wp2
    go_ret
    rw [R.out]
    exact ⟨rfl, ((Ext.refl _).alloc _).trans hx⟩
  · have R : Hid (optOkB ⟨hm, r, sp⟩ = false) := by
      show _ = _
      simp only [optOkB]
      rw [show (decide (0 ≤ hm) && decide (hm ≤ 1000000) && decide (-1 ≤ r) && decide (r < 256)) = false by simp; omega]
      rfl
    clear hs
    go_enter Try.func75, Try.ntmps75
    go_wp2
    all_goals
      go_ret
      rw [R.out]
      exact ⟨rfl, (Ext.refl _).alloc _⟩

theorem validWish1_calls (v : Value) (o : OptD) (w : World) (h : OptV w v o) :
    Calls Try.prog 74 #[v] w fun e w' => e = .returned (.bool (!optOkB o)) ∧ Ext w w' := by
  obtain ⟨sv, rfl, hs⟩ := h
  obtain ⟨a, c, rfl⟩ := hs.form
  have hcall : Hid (∀ W, Ext w W → Calls Try.prog 75 #[.agg #[.int .i64 o.harm, .int .i64 o.room, .slice a o.spans.length c]] W fun e w' => e = .returned (.bool (optOkB o)) ∧ Ext W w') := fun W hW => validOption_calls _ _ _ ⟨_, rfl, hs.ext hW⟩
  clear hs
  go_enter Try.func74, Try.ntmps74
  go_wp2_with fail
  refine (hcall.out _ ((Ext.refl _).alloc _)).mono ?_
  rintro e w1 ⟨rfl, hx⟩
  go_wp2
  go_ret
  exact ⟨rfl, ((Ext.refl _).alloc _).trans hx⟩

theorem tooLarge11_calls (v : Value) (o : OptD) (w : World) (h : OptV w v o) :
    Calls Try.prog 73 #[v] w fun e w' => e = .returned (.bool (decide (64 < o.spans.length))) ∧ Ext w w' := by
  obtain ⟨sv, rfl, hs⟩ := h
  obtain ⟨a, c, rfl⟩ := hs.form
  have hl := hs.len
  clear hs
  go_enter Try.func73, Try.ntmps73
  go_wp2
  go_ret
  exact ⟨by simp; omega, (Ext.refl _).alloc _⟩

end Go.Proofs.Ytonmlmkemliefaa
