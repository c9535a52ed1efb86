/- The law's cut: words. -/
import Derived.Test.YtonmlmkemliefaaRJ
namespace Go.Proofs.Ytonmlmkemliefaa
open Go.RowKit

def cutO (o : OptD) : OptD := { o with spans := o.spans.take 5 }
def cutW (x : WishD) : WishD := { x with people := x.people.take 8, opts := (x.opts.take 17).map cutO }
def cutT (t : List WishD) : List WishD := (t.take 5).map cutW
theorem cutO_step {l : List OptD} {i : Nat} {o : OptD} (e : l[i]? = some o) : (l.take (i + 1)).map cutO = (l.take i).map cutO ++ [cutO o] := by
  rw [List.take_add_one, e]; simp
theorem cutT_step {l : List WishD} {i : Nat} {x : WishD} (e : l[i]? = some x) : (l.take (i + 1)).map cutW = (l.take i).map cutW ++ [cutW x] := by
  rw [List.take_add_one, e]; simp
/-- a row of options of the call's own, whose spans lie in the memory that came in -/
def OptsX (w0 W : World) (v : Value) (l : List OptD) : Prop := ∃ ys, W.ownsRow w0.heap.size 59 3 v l.length ys ∧ OptsC w0 l ys
def WishesCX (w0 W : World) : List WishD → List Value → Prop
  | [], xs => xs = []
  | x :: r, xs => ∃ pv ov ys, xs = .int .i64 x.meeting :: pv :: ov :: ys ∧ (Ints w0 pv x.people ∧ OptsX w0 W ov x.opts) ∧ WishesCX w0 W r ys
def WishesX (w0 W : World) (v : Value) (l : List WishD) : Prop := ∃ xs, W.ownsRow w0.heap.size 56 3 v l.length xs ∧ WishesCX w0 W l xs
section
variable {w0 W W' : World} {v : Value} {X : Nat → Prop} {T : TypeId}
theorem OptsX.keep {l : List OptD} (h : OptsX w0 W v l) (k : Keep X W W') (hX : TX W X T) (hT : 59 ≠ T) : OptsX w0 W' v l :=
  let ⟨ys, a, b⟩ := h
  ⟨ys, owns_keepT a k hX hT, b⟩
theorem WishesCX.keep (k : Keep X W W') (hX : TX W X T) (hT : 59 ≠ T) : ∀ {l : List WishD} {xs : List Value}, WishesCX w0 W l xs → WishesCX w0 W' l xs
  | [], _, h => h
  | _ :: _, _, ⟨pv, ov, ys, e, h1, h2⟩ => ⟨pv, ov, ys, e, ⟨h1.1, h1.2.keep k hX hT⟩, WishesCX.keep k hX hT h2⟩
theorem WishesCX.snoc {x : WishD} {pv ov : Value} (hs : Ints w0 pv x.people ∧ OptsX w0 W ov x.opts) : ∀ {l : List WishD} {xs : List Value}, WishesCX w0 W l xs → WishesCX w0 W (l ++ [x]) (xs ++ [.int .i64 x.meeting, pv, ov])
  | [], _, h => by cases h; exact ⟨pv, ov, [], rfl, hs, rfl⟩
  | _ :: _, _, ⟨pv', ov', ys, e, h1, h2⟩ => ⟨pv', ov', _, by rw [e]; rfl, h1, WishesCX.snoc hs h2⟩
theorem WishesX.keep {l : List WishD} (h : WishesX w0 W v l) (k : Keep X W W') (hX : TX W X T) (hT : 59 ≠ T) (hT2 : 56 ≠ T) : WishesX w0 W' v l :=
  let ⟨xs, a, b⟩ := h
  ⟨xs, owns_keepT a k hX hT2, b.keep k hX hT⟩
theorem OptsX.read {l : List OptD} (h : OptsX w0 W v l) (e : Ext w0 W) : Opts W v l := by
  obtain ⟨ys, a, b⟩ := h
  have hat := (b.ext e).at_
  refine ⟨fun i => ys[i * 3 + 2]?.getD undef, sl_of_owns a fun i hi j hj => ?_, fun i hi => ?_⟩
  · obtain ⟨sv, c0, c1, c2, d⟩ := hat i l[i] (List.getElem?_eq_getElem hi)
    rcases j with _ | _ | _ | j
    · rw [Nat.add_zero, c0]; simp [hi]
    · rw [c1]; simp [hi]
    · rw [c2]; simp [c2]
    · omega
  · obtain ⟨sv, c0, c1, c2, d⟩ := hat i l[i] (List.getElem?_eq_getElem hi)
    simp only [c2, List.getElem?_eq_getElem hi, Option.getD_some]
    exact d
theorem WishesCX.read (e : Ext w0 W) : ∀ {l : List WishD} {xs : List Value}, WishesCX w0 W l xs → WishesC W l xs
  | [], _, h => h
  | _ :: _, _, ⟨pv, ov, ys, h, h1, h2⟩ => ⟨pv, ov, ys, h, ⟨h1.1.ext e, h1.2.read e⟩, WishesCX.read e h2⟩
theorem WishesX.read {l : List WishD} (h : WishesX w0 W v l) (e : Ext w0 W) : Wishes W v l := by
  obtain ⟨xs, a, b⟩ := h
  have hat := (b.read e).at_
  refine ⟨fun i => xs[i * 3 + 1]?.getD undef, fun i => xs[i * 3 + 2]?.getD undef, sl_of_owns a fun i hi j hj => ?_, fun i hi => ?_⟩
  · obtain ⟨pv, ov, c0, c1, c2, d⟩ := hat i l[i] (List.getElem?_eq_getElem hi)
    rcases j with _ | _ | _ | j
    · rw [Nat.add_zero, c0]; simp [hi]
    · rw [c1]; simp [c1]
    · rw [c2]; simp [c2]
    · omega
  · obtain ⟨pv, ov, c0, c1, c2, d⟩ := hat i l[i] (List.getElem?_eq_getElem hi)
    simp only [c1, c2, List.getElem?_eq_getElem hi, Option.getD_some]
    exact d
end
end Go.Proofs.Ytonmlmkemliefaa
