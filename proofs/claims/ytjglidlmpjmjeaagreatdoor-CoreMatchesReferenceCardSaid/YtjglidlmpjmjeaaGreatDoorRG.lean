/- Plain law: what Combine (and) finds is what the two lists have in common. -/
import Derived.Test.YtjglidlmpjmjeaaGreatDoorRF
namespace Go.Proofs.YtjglidlmpjmjeaaGreatDoor
open Go.RowKit

theorem mem_insL {z x : Int} : ∀ {l : List Int}, z ∈ insL l x ↔ z = x ∨ z ∈ l
 | [] => by simp [insL]
 | y :: r => by
  rw [insL]
  split
  ·rw [List.mem_cons, mem_insL, List.mem_cons]
   constructor
   ·rintro (h | h | h) <;> simp [h]
   ·rintro (h | h | h) <;> simp [h]
  ·split
   ·next h => subst h; simp
   ·simp
theorem insL_sorted {x : Int} : ∀ {l : List Int}, l.Pairwise (· < ·) → (insL l x).Pairwise (· < ·)
 | [], _ => by simp [insL]
 | y :: r, h => by
  rw [List.pairwise_cons] at h
  rw [insL]
  split
  ·next hy =>
   rw [List.pairwise_cons]
   refine ⟨fun z hz => ?_, insL_sorted h.2⟩
   rcases mem_insL.1 hz with rfl | hz
   ·exact hy
   ·exact h.1 z hz
  ·split
   ·exact List.pairwise_cons.2 h
   ·rw [List.pairwise_cons]
    refine ⟨fun z hz => ?_, List.pairwise_cons.2 h⟩
    rcases List.mem_cons.1 hz with rfl | hz
    ·omega
    ·have := h.1 z hz; omega
theorem insAll_sorted (l : List (Int × Int)) : (insAll l).Pairwise (· < ·) := by
 suffices h : ∀ (l : List (Int × Int)) (o : List Int), o.Pairwise (· < ·) → (l.foldl (fun o s => insL (insL o s.1) s.2) o).Pairwise (· < ·) from h l [] List.Pairwise.nil
 intro l
 induction l with
 | nil => intro o h; exact h
 | cons s r ih => intro o h; exact ih _ (insL_sorted (insL_sorted h))
theorem mem_insAll {s : Int × Int} {l : List (Int × Int)} (h : s ∈ l) : s.1 ∈ insAll l ∧ s.2 ∈ insAll l := by
 have keep : ∀ (l : List (Int × Int)) (o : List Int) (z : Int), z ∈ o → z ∈ l.foldl (fun o s => insL (insL o s.1) s.2) o := by
  intro l
  induction l with
  | nil => intro o z h; exact h
  | cons s r ih => intro o z h; exact ih _ z (mem_insL.2 (Or.inr (mem_insL.2 (Or.inr h))))
 suffices g : ∀ (l : List (Int × Int)) (o : List Int), s ∈ l → s.1 ∈ l.foldl (fun o s => insL (insL o s.1) s.2) o ∧ s.2 ∈ l.foldl (fun o s => insL (insL o s.1) s.2) o from g l [] h
 intro l
 induction l with
 | nil => intro o h; simp at h
 | cons t r ih =>
  intro o h
  rcases List.mem_cons.1 h with rfl | h
  ·exact ⟨keep r _ _ (mem_insL.2 (Or.inr (mem_insL.2 (Or.inl rfl)))), keep r _ _ (mem_insL.2 (Or.inl rfl))⟩
  ·exact ih _ h
theorem combStep_pos (out : List (Int × Int)) (x y : Int) : 0 < (combStep out x y).length := by
 unfold combStep
 split
 ·simp
 ·next s hs =>
  split
  ·rw [List.length_set]
   cases out with
   | nil => simp at hs
   | cons a b => simp
  ·simp
theorem combTo_pos {k : Int} {a b : List (Int × Int)} {p : List Int} : ∀ {n : Nat}, 0 < (combTo k a b p n).length ↔ ∃ j, j < n ∧ inB k (hasB a (p[j]?.getD 0)) (hasB b (p[j]?.getD 0)) = true
 | 0 => by simp [combTo]
 | n + 1 => by
  rw [combTo]
  split
  ·next h => exact ⟨fun _ => ⟨n, by omega, h⟩, fun _ => combStep_pos _ _ _⟩
  ·next h =>
   rw [combTo_pos]
   constructor
   ·rintro ⟨j, hj, hh⟩; exact ⟨j, by omega, hh⟩
   ·rintro ⟨j, hj, hh⟩
    refine ⟨j, ?_, hh⟩
    rcases Nat.lt_succ_iff_lt_or_eq.1 hj with h1 | rfl
    ·exact h1
    ·exact absurd hh h
theorem hasB_iff {l : List (Int × Int)} {t : Int} : hasB l t = true ↔ ∃ s ∈ l, s.1 ≤ t ∧ t < s.2 := by simp [hasB, List.any_eq_true]
theorem meetB_iff {a b : List (Int × Int)} : meetB a b = true ↔ ∃ x ∈ a, ∃ y ∈ b, x.1 < y.2 ∧ y.1 < x.2 := by simp [meetB, List.any_eq_true]
theorem comb_meet {a b : List (Int × Int)} (ha : ∀ s ∈ a, s.1 < s.2) (hb : ∀ s ∈ b, s.1 < s.2) : decide (0 < (combL 1 a b).length) = meetB a b := by
 rw [Bool.eq_iff_iff, decide_eq_true_iff, meetB_iff, combL, combTo_pos]
 have hin : ∀ u v : Bool, inB 1 u v = (u && v) := by intro u v; simp [inB]
 simp only [hin, Bool.and_eq_true, hasB_iff]
 constructor
 ·rintro ⟨j, _, ⟨x, hx, h1, h2⟩, ⟨y, hy, h3, h4⟩⟩
  exact ⟨x, hx, y, hy, by omega, by omega⟩
 ·rintro ⟨x, hx, y, hy, h1, h2⟩
  have hx0 := ha x hx
  have hy0 := hb y hy
  have mx := mem_insAll (List.mem_append_left b hx)
  have my := mem_insAll (List.mem_append_right a hy)
  have hs := insAll_sorted (a ++ b)
  generalize insAll (a ++ b) = p at mx my hs
  have hm : ∃ t ∈ p, x.1 ≤ t ∧ t < x.2 ∧ y.1 ≤ t ∧ t < y.2 := by
   by_cases h : x.1 ≤ y.1
   ·exact ⟨y.1, my.1, h, h2, Int.le_refl _, hy0⟩
   ·exact ⟨x.1, mx.1, Int.le_refl _, hx0, by omega, h1⟩
  obtain ⟨t, ht, t1, t2, t3, t4⟩ := hm
  obtain ⟨i, hi, rfl⟩ := List.mem_iff_getElem.1 ht
  obtain ⟨j, hj, hjx⟩ := List.mem_iff_getElem.1 mx.2
  rw [List.pairwise_iff_getElem] at hs
  have hij : i < j := by
   rcases Nat.lt_trichotomy i j with h | h | h
   ·exact h
   ·subst h; omega
   ·have := hs j i hj hi h; omega
  refine ⟨i, by omega, ?_⟩
  rw [List.getElem?_eq_getElem hi, Option.getD_some]
  exact ⟨⟨x, hx, t1, t2⟩, ⟨y, hy, t3, t4⟩⟩
end Go.Proofs.YtjglidlmpjmjeaaGreatDoor
