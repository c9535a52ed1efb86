/- What the functions of package plan and of the references compute, as plain functions on plain data; no program in sight. -/
import Derived.Test.YtonmlmkemliefaaBase
namespace Go.Proofs.Ytonmlmkemliefaa
open Go.RowKit

/-! ### spans -/
def farB (t : Int) : Bool := decide (t < -2251799813685248) || decide (2251799813685248 < t)
def rangedB (l : List (Int × Int)) : Bool := l.all fun s => !(farB s.1 || farB s.2)
/-- from < to, and behind the element before -/
def chainB : Option Int → List (Int × Int) → Bool
  | _, [] => true
  | p, s :: r => decide (s.1 < s.2) && (match p with | none => true | some e => decide (e < s.1)) && chainB (some s.2) r
def normalB (l : List (Int × Int)) : Bool := chainB none l && rangedB l

/-- the first element that has the property, or -1 -/
def findI {α : Type} (p : α → Bool) (l : List α) : Int := match l.findIdx? p with | some i => (i : Int) | none => -1
theorem findI_ge {α : Type} (p : α → Bool) (l : List α) : decide (0 ≤ findI p l) = l.any p := by
  unfold findI
  cases h : l.findIdx? p with
  | none => simp only [List.findIdx?_eq_none_iff] at h; simp; exact h
  | some i =>
    have := List.findIdx?_isSome (xs := l) (p := p)
    rw [h] at this
    simp at this
    simp; exact this
/-- a search that has come to place i -/
def FindAt {α : Type} (p : α → Bool) (l : List α) (i : Nat) : Prop := ∀ x ∈ l.take i, p x = false
theorem FindAt.zero {α : Type} (p : α → Bool) (l : List α) : FindAt p l 0 := by simp [FindAt]
theorem FindAt.hit {α : Type} {p : α → Bool} {l : List α} {i : Nat} {x : α} (h : FindAt p l i) (hx : l[i]? = some x) (hp : p x = true) : findI p l = i := by
  unfold findI
  have hi : i < l.length := (List.getElem?_eq_some_iff.1 hx).1
  have : l.findIdx? p = some i := by
    rw [List.findIdx?_eq_some_iff_getElem]
    refine ⟨hi, by rw [(List.getElem?_eq_some_iff.1 hx).2]; exact hp, fun j hj => ?_⟩
    have := h (l[j]'(by omega)) (by rw [List.mem_take_iff_getElem]; exact ⟨j, by omega, rfl⟩)
    simp [this]
  rw [this]
theorem FindAt.miss {α : Type} {p : α → Bool} {l : List α} {i : Nat} {x : α} (h : FindAt p l i) (hx : l[i]? = some x) (hp : p x = false) : FindAt p l (i + 1) := by
  intro y hy
  rw [List.take_add_one, hx] at hy
  rcases List.mem_append.1 hy with hy | hy
  · exact h y hy
  · simp at hy; subst hy; exact hp
theorem FindAt.none {α : Type} {p : α → Bool} {l : List α} {i : Nat} (h : FindAt p l i) (hi : l.length ≤ i) : findI p l = -1 := by
  unfold findI
  have : l.findIdx? p = Option.none := by
    rw [List.findIdx?_eq_none_iff]
    intro x hx
    exact h x (by rw [List.take_of_length_le hi]; exact hx)
  rw [this]


def idxB (i n : Int) : Bool := decide (0 ≤ i) && decide (i < n)

/-! ### validity of tasks -/
def optOkB (o : OptD) : Bool := decide (0 ≤ o.harm) && decide (o.harm ≤ 1000000) && decide (-1 ≤ o.room) && decide (o.room < 256) && normalB o.spans
def peopleB : Option Int → List Int → Bool
  | _, [] => true
  | p, x :: r => decide (0 ≤ x) && decide (x < 512) && (match p with | none => true | some e => decide (e < x)) && peopleB (some x) r
def wishOkB (x : WishD) : Bool := peopleB none x.people && decide (1 ≤ x.meeting) && decide (0 < x.opts.length) && x.opts.all optOkB
def tooLargeB (t : List WishD) : Bool :=
  decide (512 < t.length) || t.any fun x => decide (16 < x.opts.length) || decide (64 < x.people.length) || x.opts.any fun o => decide (64 < o.spans.length)
def wishesB : Option Int → List WishD → Bool
  | _, [] => true
  | p, x :: r => wishOkB x && (match p with | none => true | some e => decide (e < x.meeting)) && wishesB (some x.meeting) r
/-- the error of a task: 0, 1 or 2 -/
def validT (t : List WishD) : Int := if tooLargeB t then 2 else if wishesB none t && decide (0 < t.length) then 0 else 1

/-! ### clashes -/
def shareB (a b : List Int) : Bool := a.any fun x => b.contains x
def meetB (a b : List (Int × Int)) : Bool := a.any fun x => b.any fun y => decide (x.1 < y.2) && decide (y.1 < x.2)
def clashB (a b : WishD) (x y : OptD) : Bool := (decide (x.room = y.room) && decide (0 ≤ x.room) || shareB a.people b.people) && meetB x.spans y.spans
def leastN (l : List OptD) (n : Int) : Int := l.foldl (fun n o => min n o.harm) n
def leastB (x : WishD) : Int := leastN x.opts 1000000

end Go.Proofs.Ytonmlmkemliefaa
