/- Merged parts: GrowC, GrowD, Base2, GrowE. -/
import Derived.Test.YtjglidlmpjmjeaaGreatDoorPE
import Derived.Test.YtjglidlmpjmjeaaGreatDoorPA
/- Walks of the search: grow, where the node is an open leaf. -/
namespace Go.Proofs.YtjglidlmpjmjeaaGreatDoor
open Go.RowKit



end Go.Proofs.YtjglidlmpjmjeaaGreatDoor

/- Walks of the search: grow, where the node decides a wish: what a round of its loop does, in plain terms. -/
namespace Go.Proofs.YtjglidlmpjmjeaaGreatDoor
open Go.RowKit

theorem keep_chain {w w1 w2 : World} {S Pk : Nat} {a b : Value} (h : Keep (SX S Pk a) w w1) (hb : b.ownBlock = a.ownBlock ∨ ∃ g, b.ownBlock = some g ∧ w.heap.size ≤ g) (k : Keep (SX S Pk b) w1 w2) : Keep (SX S Pk a) w w2 := by
 refine h.trans' k fun i hi hx => ?_
 rcases hx with hx | hx | hx
 ·exact Or.inl hx
 ·exact Or.inr (Or.inl hx)
 ·rcases hb with hb | ⟨g, hg, hge⟩
  ·exact Or.inr (Or.inr (hb ▸ hx))
  ·rw [hg] at hx; cases hx; omega
theorem nvs_chain {w w1 : World} {a b c : Value} (hw : w.heap.size ≤ w1.heap.size) (h : b.ownBlock = a.ownBlock ∨ ∃ g, b.ownBlock = some g ∧ w.heap.size ≤ g) (h' : c.ownBlock = b.ownBlock ∨ ∃ g, c.ownBlock = some g ∧ w1.heap.size ≤ g) :
  c.ownBlock = a.ownBlock ∨ ∃ g, c.ownBlock = some g ∧ w.heap.size ≤ g := by
 rcases h' with h' | ⟨g, hg, hge⟩
 ·rw [h']; exact h
 ·exact Or.inr ⟨g, hg, by omega⟩
theorem foldFound_append (f : Option (List Int × Int)) (a b : List (List Int × Int)) : foldFound f (a ++ b) = foldFound (foldFound f a) b := by simp [foldFound, List.foldl_append]
theorem foldOver_append (o : Int) (a b : List Int) : foldOver o (a ++ b) = foldOver (foldOver o a) b := by simp [foldOver, List.foldl_append]

def ZK (Z : Nat → Prop) (kv : Value) : Nat → Prop := fun g => Z g ∨ kv.ownBlock = some g
section
variable {Z : Nat → Prop} {w0 w w1 wr w3 w4 : World} {S Pk Rb : Nat} {tv nv0 nv1 nv fv nv' fv' kv v' : Value} {t : List WishD} {bound over0 over harm idx : Int} {rest pick0 pick pick' : List Int} {nodes0 nodes : List NodeD}
 {found0 found : Option (List Int × Int)} {pre : List Int} {K : KRes} {x : WishD} {o : OptD} {k : Nat} {F0 : Value}

end

end Go.Proofs.YtjglidlmpjmjeaaGreatDoor

/- More on the readings: element lemmas of slices that are written out. -/
namespace Go.Proofs.YtjglidlmpjmjeaaGreatDoor
open Go.RowKit

theorem Ints.at_ {w : World} {a : Option Addr} {n c : Nat} {l : List Int} (h : Ints w (.slice a n c) l) : IntsAt a w l ∧ n = l.length := by
 obtain ⟨_, _, e, _, _, hh⟩ := h.open; cases e; exact ⟨hh, rfl⟩
theorem Spans.at_ {w : World} {a : Option Addr} {n c : Nat} {l : List (Int × Int)} (h : Spans w (.slice a n c) l) : SpansAt a w l ∧ n = l.length := by
 obtain ⟨_, _, e, _, _, hh⟩ := h.open; cases e; exact ⟨hh, rfl⟩
theorem Opts.at_ {w : World} {a : Option Addr} {n c : Nat} {l : List OptD} (h : Opts w (.slice a n c) l) : OptsAt a w l ∧ n = l.length := by
 obtain ⟨_, _, e, _, _, hh⟩ := h.open; cases e; exact ⟨hh, rfl⟩
theorem Wishes.at_ {w : World} {a : Option Addr} {n c : Nat} {l : List WishD} (h : Wishes w (.slice a n c) l) : WishesAt a w l ∧ n = l.length := by
 obtain ⟨_, _, e, _, _, hh⟩ := h.open; cases e; exact ⟨hh, rfl⟩
theorem Nodes.at_ {w : World} {a : Option Addr} {n c : Nat} {l : List NodeD} (h : Nodes w (.slice a n c) l) : NodesAt a w l ∧ n = l.length := by
 obtain ⟨_, _, e, _, _, hh⟩ := h.open; cases e; exact ⟨hh, rfl⟩

end Go.Proofs.YtjglidlmpjmjeaaGreatDoor

/- Walks of the search: grow, where the node decides a wish; grow whole. -/
namespace Go.Proofs.YtjglidlmpjmjeaaGreatDoor
open Go.RowKit



def growF (t : List WishD) (bound : Int) (r : List WishD) (pre : List Int) (harm : Int) : Int → OptD → Nat → Res := fun i o N' => growL t bound r (pre ++ [i]) (harm + o.harm) N'


end Go.Proofs.YtjglidlmpjmjeaaGreatDoor
