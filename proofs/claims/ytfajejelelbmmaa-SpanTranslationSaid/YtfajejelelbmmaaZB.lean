/- Plain law: what the reference's Gap tries is enough. -/
import Derived.Test.YtfajejelelbmmaaLI
namespace Go.Proofs.Ytfajejelelbmmaa
open Go.RowKit

/-- an instant of the list lies in [t, t + n) -/
def MtL (l : List (Int × Int)) (n t : Int) : Prop := ∃ u, hasB l u = true ∧ t ≤ u ∧ u < t + n
theorem mtL_comb {l : List (Int × Int)} {n t : Int} : decide (0 < (combL 1 l [(t, t + n)]).length) = true ↔ MtL l n t := by
  rw [comb_some]
  constructor
  · rintro ⟨u, hu⟩
    have hu' : hasB l u = true ∧ hasB [(t, t + n)] u = true := by
      cases h1 : hasB l u <;> cases h2 : hasB [(t, t + n)] u <;> rw [h1, h2] at hu <;> simp [inB] at hu ⊢
    obtain ⟨s, hs, s1, s2⟩ := hasB_iff.1 hu'.2
    rw [List.mem_singleton] at hs
    subst hs
    exact ⟨u, hu'.1, s1, s2⟩
  · rintro ⟨u, h1, h2, h3⟩
    have h4 : hasB [(t, t + n)] u = true := hasB_iff.2 ⟨_, List.mem_singleton.2 rfl, h2, h3⟩
    exact ⟨u, by rw [h1, h4]; rfl⟩
theorem mtL_norm {l : List (Int × Int)} {n t : Int} : MtL (combL 0 l []) n t ↔ MtL l n t := by
  unfold MtL
  have e : ∀ u, hasB (combL 0 l []) u = hasB l u := fun u => by
    rw [comb_has, hasB_nil]
    cases hasB l u <;> rfl
  simp only [e]
theorem mtL_meets {l : List (Int × Int)} {n t : Int} (hn : 1 ≤ n) : MtL l n t ↔ MeetsAt (combL 0 l []) n t := by
  rw [← mtL_norm, ← mtL_comb]
  exact meets_comb (comb_chain _ _ _) hn
theorem max_le : ∀ (P : List Int) (t : Int), (∃ z ∈ P, z ≤ t) → ∃ m ∈ P, m ≤ t ∧ ∀ z ∈ P, z ≤ t → z ≤ m
  | [], t, ⟨_, h, _⟩ => by cases h
  | p :: r, t, h => by
    by_cases hr : ∃ z ∈ r, z ≤ t
    · obtain ⟨m, hm, h1, h2⟩ := max_le r t hr
      by_cases hp : p ≤ t ∧ m < p
      · refine ⟨p, by simp, hp.1, fun z hz hzt => ?_⟩
        rcases List.mem_cons.1 hz with rfl | hz
        · exact Int.le_refl _
        · have := h2 z hz hzt; omega
      · refine ⟨m, by simp [hm], h1, fun z hz hzt => ?_⟩
        rcases List.mem_cons.1 hz with rfl | hz
        · omega
        · exact h2 z hz hzt
    · obtain ⟨z, hz, hzt⟩ := h
      rcases List.mem_cons.1 hz with rfl | hz
      · refine ⟨z, by simp, hzt, fun y hy hyt => ?_⟩
        rcases List.mem_cons.1 hy with rfl | hy
        · exact Int.le_refl _
        · exact absurd ⟨y, hy, hyt⟩ hr
      · exact absurd ⟨z, hz, hzt⟩ hr
theorem gap_tried {l : List (Int × Int)} {P : List Int} {n wf wt t : Int} (hw : wf ∈ P) (hb : ∀ s ∈ l, s.2 ∈ P) (hn : 1 ≤ n)
    (hF : ∀ t0 ∈ P, wf ≤ t0 → t0 + n ≤ wt → t0 ≤ t → MtL l n t0) (h1 : wf ≤ t) (h2 : t + n ≤ wt) : MtL l n t := by
  obtain ⟨m, hm, hmt, hmax⟩ := max_le P t ⟨wf, hw, h1⟩
  have := hmax wf hw h1
  obtain ⟨u, hu, u1, u2⟩ := hF m hm this (by omega) hmt
  by_cases hut : t ≤ u
  · exact ⟨u, hu, hut, by omega⟩
  · obtain ⟨s, hs, s1, s2⟩ := hasB_iff.1 hu
    by_cases hst : s.2 ≤ t
    · have := hmax _ (hb s hs) hst; omega
    · exact ⟨t, hasB_iff.2 ⟨s, hs, by omega, by omega⟩, Int.le_refl _, by omega⟩
/-- the points that the reference tries -/
def ptsL (l : List (Int × Int)) (wf : Int) : List Int := insL (insAll (l ++ [])) wf
theorem pts_sorted (l : List (Int × Int)) (wf : Int) : (ptsL l wf).Pairwise (· < ·) := insL_sorted (insAll_sorted _)
theorem pts_first (l : List (Int × Int)) (wf : Int) : wf ∈ ptsL l wf := mem_insL.2 (Or.inl rfl)
theorem pts_ends {l : List (Int × Int)} {wf : Int} (s : Int × Int) (hs : s ∈ l) : s.2 ∈ ptsL l wf := mem_insL.2 (Or.inr (mem_insAll (by simpa using hs)).2)
theorem pts_ranged {l : List (Int × Int)} {wf z : Int} (hr : rangedB l = true) (h1 : -2251799813685248 ≤ wf) (h2 : wf ≤ 2251799813685248) (hz : z ∈ ptsL l wf) : -2251799813685248 ≤ z ∧ z ≤ 2251799813685248 := by
  rcases mem_insL.1 hz with rfl | hz
  · exact ⟨h1, h2⟩
  · obtain ⟨s, hs, e⟩ := insAll_only hz
    rw [List.append_nil] at hs
    obtain ⟨i, hi⟩ := List.mem_iff_getElem?.1 hs
    obtain ⟨⟨a1, a2⟩, a3, a4⟩ := ranged_at (x := s.1) (y := s.2) hr (List.mem_of_getElem? hi)
    rcases e with rfl | rfl
    · exact ⟨a1, a2⟩
    · exact ⟨a3, a4⟩
theorem pts_len (l : List (Int × Int)) (wf : Int) : (ptsL l wf).length ≤ 2 * l.length + 1 := by
  have h1 := insL_len (insAll (l ++ [])) wf
  have h2 := insAll_len (l ++ [])
  rw [List.append_nil] at h2
  unfold ptsL
  rw [List.append_nil] at h1 ⊢
  omega
/-- all points before i fail -/
def TriedTo (l : List (Int × Int)) (P : List Int) (n wf wt : Int) (i : Nat) : Prop := ∀ j t, j < i → P[j]? = some t → wf ≤ t → t + n ≤ wt → MtL l n t
theorem TriedTo.step {l : List (Int × Int)} {P : List Int} {n wf wt x : Int} {i : Nat} (h : TriedTo l P n wf wt i) (e : P[i]? = some x) (k : wf ≤ x → x + n ≤ wt → MtL l n x) : TriedTo l P n wf wt (i + 1) := by
  intro j t hj ht h1 h2
  rcases Nat.lt_succ_iff_lt_or_eq.1 hj with hj | rfl
  · exact h j t hj ht h1 h2
  · rw [e] at ht
    cases ht
    exact k h1 h2
theorem gapRef_yes {l : List (Int × Int)} {n wf wt x : Int} {i : Nat} (h : TriedTo l (ptsL l wf) n wf wt i) (e : (ptsL l wf)[i]? = some x) (hn : 1 ≤ n) (h1 : wf ≤ x) (h2 : x + n ≤ wt) (h3 : ¬ MtL l n x) : GapIs (combL 0 l []) n wf wt true x (x + n) := by
  refine ⟨fun _ => ⟨h1, rfl, h2, fun k => h3 ((mtL_meets hn).2 k)⟩, fun h => (by cases h), fun t t1 t2 t3 => (mtL_meets hn).1 ?_⟩
  refine gap_tried (pts_first l wf) pts_ends hn (fun t0 ht0 a1 a2 a3 => ?_) t1 t2
  obtain ⟨j, hj⟩ := List.mem_iff_getElem?.1 ht0
  have := t3 rfl
  exact h j t0 ((sorted_get (pts_sorted l wf) hj e).1 (by omega)) hj a1 a2
theorem gapRef_no {l : List (Int × Int)} {n wf wt : Int} (h : TriedTo l (ptsL l wf) n wf wt (ptsL l wf).length) (hn : 1 ≤ n) : GapIs (combL 0 l []) n wf wt false 0 0 := by
  refine ⟨fun h => (by cases h), fun _ => ⟨rfl, rfl⟩, fun t t1 t2 _ => (mtL_meets hn).1 ?_⟩
  refine gap_tried (pts_first l wf) pts_ends hn (fun t0 ht0 a1 a2 a3 => ?_) t1 t2
  obtain ⟨j, hj⟩ := List.mem_iff_getElem?.1 ht0
  exact h j t0 (List.getElem?_eq_some_iff.1 hj).1 hj a1 a2
theorem gapRef_short {l : List (Int × Int)} {n wf wt : Int} (h : wt - wf < n) : GapIs (combL 0 l []) n wf wt false 0 0 :=
  ⟨fun h => (by cases h), fun _ => ⟨rfl, rfl⟩, fun t t1 t2 _ => by omega⟩
end Go.Proofs.Ytfajejelelbmmaa
