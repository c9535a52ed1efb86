/- Walks of the reference of spans: Far, InRange, Valid, Has, in. -/
import Derived.Test.YtcmcojmhlgknoaaXA
namespace Go.Proofs.Ytcmcojmhlgknoaa
open Go.RowKit

theorem ranged_step {l : List (Int × Int)} {i : Nat} {x y : Int} (d : l.drop i = (x, y) :: l.drop (i + 1)) : rangedB (l.drop i) = (!(farB x || farB y) && rangedB (l.drop (i + 1))) := by rw [d]; rfl

/-- an instant of a list -/
def hasB (l : List (Int × Int)) (t : Int) : Bool := l.any fun s => decide (s.1 ≤ t) && decide (t < s.2)
theorem has_step {l : List (Int × Int)} {i : Nat} {x y : Int} (t : Int) (d : l.drop i = (x, y) :: l.drop (i + 1)) : hasB (l.drop i) t = (decide (x ≤ t) && decide (t < y) || hasB (l.drop (i + 1)) t) := by rw [d]; rfl
/-- the combination's membership: 0 or, 1 and, else without -/
def inB (k : Int) (a b : Bool) : Bool := if k = 0 then a || b else if k = 1 then a && b else a && !b
end Go.Proofs.Ytcmcojmhlgknoaa
