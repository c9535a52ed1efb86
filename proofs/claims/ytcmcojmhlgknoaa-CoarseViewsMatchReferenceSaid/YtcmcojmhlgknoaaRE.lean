/- Walks of the reference of spans: bounds. -/
import Derived.Test.YtcmcojmhlgknoaaRD
namespace Go.Proofs.Ytcmcojmhlgknoaa
open Go.RowKit

theorem Spans.reads {w : World} {a : Option Addr} {n c : Nat} {l : List (Int × Int)} (h : Spans w (.slice a n c) l) : Reads w w.heap.size 2 a n (spanCells l) := by
  obtain ⟨_, _, e, _, _, h⟩ := h
  cases e
  have hlen : ∀ l : List (Int × Int), (spanCells l).length = l.length * 2 := by
    intro l
    induction l with
    | nil => rfl
    | cons x r ih => rw [spanCells, List.flatMap_cons, List.length_append]; show 2 + (spanCells r).length = _; rw [ih, List.length_cons]; omega
  refine ⟨hlen l, fun h0 => ?_⟩
  obtain ⟨b, off, rfl, hb, hc⟩ := h h0
  refine ⟨_, rfl, hb, fun j u hu => ?_⟩
  have hj : j < l.length * 2 := by have := (List.getElem?_eq_some_iff.1 hu).1; rwa [hlen] at this
  have hi : j / 2 < l.length := by omega
  have hs := spanCells_at (j / 2) l[j / 2] (List.getElem?_eq_getElem hi)
  have e : (⟨b, off, none⟩ : Addr).add j = ⟨b, off + j, none⟩ := by unfold Addr.add; split <;> simp_all
  rw [e]
  rcases Nat.mod_two_eq_zero_or_one j with h2 | h2
  · have := hc (j / 2) hi 0 (by omega)
    rw [show off + j / 2 * 2 + 0 = off + j by omega] at this
    rw [this]
    have hs1 := hs.1
    rw [show j / 2 * 2 = j by omega, hu] at hs1
    rw [hs1]
    simp [hi]
  · have := hc (j / 2) hi 1 (by omega)
    rw [show off + j / 2 * 2 + 1 = off + j by omega] at this
    rw [this]
    have hs1 := hs.2
    rw [show j / 2 * 2 + 1 = j by omega, hu] at hs1
    rw [hs1]
    simp [hi]
theorem span_one {l : List (Int × Int)} : ∀ u ∈ spanCells l, u.oneCell' = true := by
  intro u hu
  simp only [spanCells, List.mem_flatMap] at hu
  obtain ⟨s, _, hs⟩ := hu
  simp at hs
  rcases hs with rfl | rfl <;> rfl
/-- the ends of all the spans, in order, once each -/
def insAll (l : List (Int × Int)) : List Int := l.foldl (fun o s => insL (insL o s.1) s.2) []
theorem insAll_step {l : List (Int × Int)} {i : Nat} {x y : Int} (e : l[i]? = some (x, y)) : insAll (l.take (i + 1)) = insL (insL (insAll (l.take i)) x) y := by
  rw [List.take_add_one, e, insAll, List.foldl_append]; rfl
theorem insAll_len (l : List (Int × Int)) : (insAll l).length ≤ 2 * l.length := by
  suffices h : ∀ (l : List (Int × Int)) (o : List Int), (l.foldl (fun o s => insL (insL o s.1) s.2) o).length ≤ o.length + 2 * l.length by
    have := h l []; simpa [insAll] using this
  intro l
  induction l with
  | nil => intro o; simp
  | cons s r ih =>
    intro o
    rw [List.foldl_cons, List.length_cons]
    have h1 := ih (insL (insL o s.1) s.2)
    have h2 := insL_len (insL o s.1) s.2
    have h3 := insL_len o s.1
    omega
theorem spanCells_app (a b : List (Int × Int)) : spanCells (a ++ b) = spanCells a ++ spanCells b := by simp [spanCells]
theorem SpansO.keepInts {w w' : World} {B B' g n c : Nat} {v : Value} {l : List (Int × Int)} {o : List Int} (h : SpansO w B v l) (hO : IntsO w B' (.slice (some ⟨g, 0, none⟩) n c) o) (k : Keep (fun k => k = g) w w') : SpansO w' B v l :=
  h.keepT k (T := 3) (by rintro _ rfl _; exact owns_block hO rfl) (by decide)
theorem Ext.keepInts {w0 w w' : World} {g n c : Nat} {o : List Int} (h : Ext w0 w) (hO : IntsO w w0.heap.size (.slice (some ⟨g, 0, none⟩) n c) o) (k : Keep (fun k => k = g) w w') : Ext w0 w' :=
  h.keep k fun i hi e => by have := (World.ownsRow.lt hO g rfl).1; omega
theorem spans_app {w : World} {B : Nat} {v : Value} {a b : List (Int × Int)} (h : w.ownsRow B 28 2 v (a.length + b.length) (spanCells a ++ spanCells b)) : SpansO w B v (a ++ b) := by
  unfold SpansO
  rw [List.length_append, spanCells_app]
  exact h
theorem ints_kept {w w' : World} {B B' g n m c : Nat} {v : Value} {o : List Int} {xs : List Value} (h : IntsO w B (.slice (some ⟨g, 0, none⟩) n c) o) (hr : w.ownsRow B' 28 2 v m xs) (hg : w.grownBy w' v.ownBlock) : IntsO w' B (.slice (some ⟨g, 0, none⟩) n c) o := by
  obtain ⟨cs, hcs⟩ := owns_block (h : w.ownsRow _ _ _ _ _ _) (g := g) rfl
  refine World.ownsRow.kept h hg (Or.inr fun e => own_blk_ne hr hcs (by decide) e.symm)
end Go.Proofs.Ytcmcojmhlgknoaa
