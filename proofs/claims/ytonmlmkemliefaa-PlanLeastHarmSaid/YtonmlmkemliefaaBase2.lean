/- More on the readings: element lemmas of slices that are written out. -/
import Derived.Test.YtonmlmkemliefaaBase
namespace Go.Proofs.Ytonmlmkemliefaa
open Go.RowKit

theorem Ints.at_ {w : World} {a : Option Addr} {n c : Nat} {l : List Int} (h : Ints w (.slice a n c) l) : IntsAt a w l ∧ n = l.length := by
  obtain ⟨_, _, e, _, _, hh⟩ := h.open; cases e; exact ⟨hh, rfl⟩
theorem Spans.at_ {w : World} {a : Option Addr} {n c : Nat} {l : List (Int × Int)} (h : Spans w (.slice a n c) l) : SpansAt a w l ∧ n = l.length := by
  obtain ⟨_, _, e, _, _, hh⟩ := h.open; cases e; exact ⟨hh, rfl⟩
theorem Opts.at_ {w : World} {a : Option Addr} {n c : Nat} {l : List OptD} (h : Opts w (.slice a n c) l) : OptsAt a w l ∧ n = l.length := by
  obtain ⟨_, _, e, _, _, hh⟩ := h.open; cases e; exact ⟨hh, rfl⟩
theorem Wishes.at_ {w : World} {a : Option Addr} {n c : Nat} {l : List WishD} (h : Wishes w (.slice a n c) l) : WishesAt a w l ∧ n = l.length := by
  obtain ⟨_, _, e, _, _, hh⟩ := h.open; cases e; exact ⟨hh, rfl⟩
theorem Nodes.at_ {w : World} {a : Option Addr} {n c : Nat} {l : List NodeD} (h : Nodes w (.slice a n c) l) : NodesAt a w l ∧ n = l.length := by
  obtain ⟨_, _, e, _, _, hh⟩ := h.open; cases e; exact ⟨hh, rfl⟩

end Go.Proofs.Ytonmlmkemliefaa
