/- Plain law of SpanTranslation: what is moved by a number. -/
import Derived.Test.YtfajejelelbmmaaZB
namespace Go.Proofs.Ytfajejelelbmmaa
open Go.RowKit

def moveL (l : List (Int × Int)) (k : Int) : List (Int × Int) := l.map fun s => (s.1 + k, s.2 + k)
theorem moveL_len (l : List (Int × Int)) (k : Int) : (moveL l k).length = l.length := by unfold moveL; rw [List.length_map]
theorem moveL_get {l : List (Int × Int)} {k x y : Int} {i : Nat} (h : l[i]? = some (x, y)) : (moveL l k)[i]? = some (x + k, y + k) := by
  unfold moveL
  rw [List.getElem?_map, h]
  rfl
theorem moveL_has (l : List (Int × Int)) (k t : Int) : hasB (moveL l k) t = hasB l (t - k) := by
  rw [Bool.eq_iff_iff, hasB_iff, hasB_iff]
  unfold moveL
  constructor
  · rintro ⟨s, hs, h1, h2⟩
    obtain ⟨q, hq, rfl⟩ := List.mem_map.1 hs
    dsimp only at h1 h2
    exact ⟨q, hq, by omega, by omega⟩
  · rintro ⟨q, hq, h1, h2⟩
    exact ⟨_, List.mem_map.2 ⟨q, hq, rfl⟩, by dsimp only; omega, by dsimp only; omega⟩
theorem moveL_chain (k : Int) : ∀ {l : List (Int × Int)} {p : Option Int}, chainB p l = true → chainB (p.map (· + k)) (moveL l k) = true
  | [], _, _ => rfl
  | s :: r, p, h => by
    obtain ⟨h1, h2, h3⟩ := chainB_cons.1 h
    refine chainB_cons.2 ⟨by dsimp only; omega, fun e he => ?_, moveL_chain k (p := some s.2) h3⟩
    cases p with
    | none => cases he
    | some e0 =>
      cases he
      have := h2 e0 rfl
      dsimp only
      omega
theorem moveL_comb (j : Int) (a b : List (Int × Int)) (k : Int) : combL j (moveL a k) (moveL b k) = moveL (combL j a b) k := by
  refine (comb_eq (moveL_chain k (p := none) (comb_chain j a b)) fun t => ?_).symm
  rw [moveL_has, comb_has, moveL_has, moveL_has]
theorem comb_norm {d : List (Int × Int)} (h : chainB none d = true) : combL 0 d [] = d := by
  refine (comb_eq h fun t => ?_).symm
  rw [hasB_nil]
  cases hasB d t <;> rfl
theorem moveL_meets {N : List (Int × Int)} {n t k : Int} : MeetsAt (moveL N k) n t ↔ MeetsAt N n (t - k) := by
  unfold MeetsAt moveL
  constructor
  · rintro ⟨s, hs, h1, h2⟩
    obtain ⟨q, hq, rfl⟩ := List.mem_map.1 hs
    dsimp only at h1 h2
    exact ⟨q, hq, by omega, by omega⟩
  · rintro ⟨q, hq, h1, h2⟩
    exact ⟨_, List.mem_map.2 ⟨q, hq, rfl⟩, by dsimp only; omega, by dsimp only; omega⟩
theorem moveL_gap {N : List (Int × Int)} {n wf wt k x y : Int} (h : GapIs N n wf wt true x y) : GapIs (moveL N k) n (wf + k) (wt + k) true (x + k) (y + k) := by
  obtain ⟨a1, a2, a3, a4⟩ := h.yes rfl
  refine ⟨fun _ => ⟨by omega, by omega, by omega, fun hm => a4 ?_⟩, fun h => (by cases h), fun t t1 t2 t3 => moveL_meets.2 (h.before (t - k) (by omega) (by omega) fun _ => ?_)⟩
  · have := moveL_meets.1 hm
    rw [show x + k - k = x by omega] at this
    exact this
  · have := t3 rfl
    omega
/-- room behind all spans: there is a gap -/
theorem gap_room {N : List (Int × Int)} {n wf wt m x y : Int} {ok : Bool} (hN : ∀ s ∈ N, s.2 ≤ m) (h1 : wf ≤ m) (h2 : m + n ≤ wt) (h : GapIs N n wf wt ok x y) : ok = true := by
  cases ok with
  | true => rfl
  | false =>
    obtain ⟨s, hs, s1, s2⟩ := h.before m h1 h2 (fun h => by cases h)
    have := hN s hs
    omega
/-- what is left of [u, v) without a chain within it -/
def holesL (u v : Int) : List (Int × Int) → List (Int × Int)
  | [] => [(u, v)]
  | s :: r => (u, s.1) :: holesL s.2 v r
theorem holes_len (v : Int) : ∀ (l : List (Int × Int)) (u : Int), (holesL u v l).length = l.length + 1
  | [], _ => rfl
  | s :: r, u => by simp only [holesL, List.length_cons]; rw [holes_len v r s.2]
theorem holes_is (v : Int) : ∀ (l : List (Int × Int)) (u : Int) (p : Option Int), u < v → (∀ e, p = some e → e < u) → chainB (some u) l = true → (∀ s ∈ l, s.2 < v) →
    chainB p (holesL u v l) = true ∧ ∀ t, hasB (holesL u v l) t = (decide (u ≤ t) && decide (t < v) && !hasB l t)
  | [], u, p, h, hp, _, _ => by
    refine ⟨chainB_cons.2 ⟨h, hp, rfl⟩, fun t => ?_⟩
    simp [holesL, hasB]
  | s :: r, u, p, h, hp, hc, hv => by
    obtain ⟨h1, h2, h3⟩ := chainB_cons.1 hc
    have h4 := h2 u rfl
    have h5 := hv s (by simp)
    obtain ⟨i1, i2⟩ := holes_is v r s.2 (some s.1) h5 (fun e he => by cases he; exact h1) h3 (fun q hq => hv q (by simp [hq]))
    refine ⟨chainB_cons.2 ⟨h4, hp, i1⟩, fun t => ?_⟩
    simp only [holesL]
    rw [hasB_cons, i2, hasB_cons]
    by_cases c1 : t < s.2
    · have hr : hasB r t = false := has_behind h3 (by omega)
      rw [hr, Bool.eq_iff_iff]
      simp
      omega
    · have d1 : decide (s.2 ≤ t) = true := decide_eq_true (by omega)
      have d2 : decide (t < s.2) = false := decide_eq_false c1
      have d3 : decide (t < s.1) = false := decide_eq_false (by omega)
      have d4 : decide (u ≤ t) = true := decide_eq_true (by omega)
      simp only [d1, d2, d3, d4, Bool.and_false, Bool.false_or, Bool.true_and]
theorem holes_comb {l : List (Int × Int)} {u v : Int} (h : u < v) (hc : chainB none l = true) (hu : ∀ s ∈ l, u < s.1) (hv : ∀ s ∈ l, s.2 < v) : (combL 2 [(u, v)] l).length = l.length + 1 := by
  have hc' : chainB (some u) l = true := by
    cases l with
    | nil => rfl
    | cons s r =>
      obtain ⟨h1, _, h3⟩ := chainB_cons.1 hc
      exact chainB_cons.2 ⟨h1, fun e he => by cases he; exact hu s (by simp), h3⟩
  obtain ⟨a, b⟩ := holes_is v l u none h (fun e he => by cases he) hc' hv
  rw [← comb_eq a, holes_len]
  intro t
  rw [b t]
  have e : hasB [(u, v)] t = (decide (u ≤ t) && decide (t < v)) := by simp [hasB]
  rw [e]
  cases (decide (u ≤ t) && decide (t < v)) <;> cases hasB l t <;> rfl
end Go.Proofs.Ytfajejelelbmmaa
