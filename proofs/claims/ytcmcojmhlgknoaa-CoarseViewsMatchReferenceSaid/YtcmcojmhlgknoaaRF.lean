/- Walks of the reference of spans: Combine. -/
import Derived.Test.YtcmcojmhlgknoaaRE
namespace Go.Proofs.Ytcmcojmhlgknoaa
open Go.RowKit

/-- one stretch between two ends is taken in -/
def combStep (out : List (Int × Int)) (x y : Int) : List (Int × Int) :=
  match out.getLast? with
  | none => out ++ [(x, y)]
  | some s => if s.2 = x then out.set (out.length - 1) (s.1, y) else out ++ [(x, y)]
def combTo (k : Int) (a b : List (Int × Int)) (p : List Int) : Nat → List (Int × Int)
  | 0 => []
  | i + 1 => if inB k (hasB a (p[i]?.getD 0)) (hasB b (p[i]?.getD 0)) then combStep (combTo k a b p i) (p[i]?.getD 0) (p[i + 1]?.getD 0) else combTo k a b p i
def combL (k : Int) (a b : List (Int × Int)) : List (Int × Int) := combTo k a b (insAll (a ++ b)) ((insAll (a ++ b)).length - 1)
section
variable {k : Int} {a b : List (Int × Int)} {p : List Int} {i : Nat} {x y : Int}
theorem combTo_skip (hx : p[i]? = some x) (h : inB k (hasB a x) (hasB b x) = false) : combTo k a b p (i + 1) = combTo k a b p i := by
  rw [combTo, hx, Option.getD_some, h]; rfl
theorem combTo_take (hx : p[i]? = some x) (hy : p[i + 1]? = some y) (h : inB k (hasB a x) (hasB b x) = true) : combTo k a b p (i + 1) = combStep (combTo k a b p i) x y := by
  rw [combTo, hx, hy, Option.getD_some, Option.getD_some, h]; rfl
theorem combStep_nil {out : List (Int × Int)} (h : out.length = 0) : combStep out x y = out ++ [(x, y)] := by
  rw [List.length_eq_zero_iff] at h; subst h; rfl
theorem combStep_far {out : List (Int × Int)} {u v : Int} {n : Nat} (hn : out.length = n + 1) (h : out[n]? = some (u, v)) (hne : v ≠ x) : combStep out x y = out ++ [(x, y)] := by
  rw [combStep, List.getLast?_eq_getElem?, hn, Nat.add_sub_cancel, h]; simp [hne]
theorem combStep_on {out : List (Int × Int)} {u v : Int} {n : Nat} (hn : out.length = n + 1) (h : out[n]? = some (u, v)) (he : v = x) : combStep out x y = out.set n (u, y) := by
  rw [combStep, List.getLast?_eq_getElem?, hn, Nat.add_sub_cancel, h]; simp [he]
theorem combTo_len (k : Int) (a b : List (Int × Int)) (p : List Int) : ∀ i, (combTo k a b p i).length ≤ i
  | 0 => Nat.le_refl _
  | i + 1 => by
    have := combTo_len k a b p i
    rw [combTo]
    split
    · unfold combStep
      split
      · simp; omega
      · split <;> simp <;> omega
    · omega
end
theorem spanCells_set {y : Int} : ∀ {l : List (Int × Int)} {n : Nat} {u v : Int}, l[n]? = some (u, v) → spanCells (l.set n (u, y)) = (spanCells l).set (n * 2 + 1) (.int .i64 y)
  | [], _, _, _, h => by simp at h
  | s :: r, 0, u, v, h => by simp at h; subst h; rfl
  | s :: r, n + 1, u, v, h => by
    have := spanCells_set (y := y) (l := r) (n := n) (u := u) (v := v) (by simpa using h)
    rw [show (n + 1) * 2 + 1 = (n * 2 + 1) + 1 + 1 by omega]
    show [_, _] ++ spanCells (r.set n (u, y)) = _
    rw [this]; rfl
theorem SpansO.last {w : World} {B g n c : Nat} {l : List (Int × Int)} {u v y : Int} (h : SpansO w B (.slice (some ⟨g, 0, none⟩) l.length c) l) (e : l[n]? = some (u, v)) :
    SpansO (w.setCell ⟨g, n * 2 + 1, none⟩ (.int .i64 y)) B (.slice (some ⟨g, 0, none⟩) (l.set n (u, y)).length c) (l.set n (u, y)) := by
  unfold SpansO
  rw [spanCells_set e, List.length_set]
  exact (World.ownsRow.stored h (n * 2 + 1) (.int .i64 y)).1
theorem SpansO.push {w1 : World} {B n : Nat} {v1 : Value} {l : List (Int × Int)} {x y : Int} (hn : n = l.length) (hown : w1.ownsRow B 28 2 v1 (n + 1) (spanCells l ++ [.int .i64 x, .int .i64 y])) : SpansO w1 B v1 (l ++ [(x, y)]) := by
  unfold SpansO
  rw [List.length_append, spanCells_app, ← hn]
  exact hown
theorem two_int (x y : Int) : ∀ u ∈ [Value.int .i64 x, .int .i64 y], u.oneCell' = true := by intro u hu; simp at hu; rcases hu with rfl | rfl <;> rfl
theorem owns_pos {w : World} {base : Nat} {e : TypeId} {size n : Nat} {v : Value} {xs : List Value} (h : w.ownsRow base e size v n xs) (h0 : 0 < n) : ∃ g c, v = .slice (some ⟨g, 0, none⟩) n c := by
  rcases h.2 with ⟨_, h1⟩ | ⟨g, cap, cur, rfl, _⟩
  · omega
  · exact ⟨_, _, rfl⟩
end Go.Proofs.Ytcmcojmhlgknoaa
