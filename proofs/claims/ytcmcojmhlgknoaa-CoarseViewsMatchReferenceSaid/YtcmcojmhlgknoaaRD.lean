/- Walks of the reference of spans: insert. -/
import Derived.Test.YtcmcojmhlgknoaaRA
import Derived.Deep.Cut
namespace Go.Proofs.Ytcmcojmhlgknoaa
open Go.RowKit

/-- a sorted list with x put in, once -/
def insL : List Int → Int → List Int
  | [], x => [x]
  | y :: r, x => if y < x then y :: insL r x else if y = x then y :: r else x :: y :: r
theorem insL_end {l : List Int} {x : Int} {i : Nat} (h : l.length ≤ i) : insL (l.drop i) x = [x] := by rw [List.drop_of_length_le h]; rfl
theorem insL_lt {l : List Int} {x y : Int} {i : Nat} (d : l.drop i = y :: l.drop (i + 1)) (e : l[i]? = some y) (h : y < x) : l.take i ++ insL (l.drop i) x = l.take (i + 1) ++ insL (l.drop (i + 1)) x := by
  rw [d, insL, if_pos h, List.take_add_one, e]
  simp
theorem insL_eq {l : List Int} {x y : Int} {i : Nat} (d : l.drop i = y :: l.drop (i + 1)) (h : y = x) : l.take i ++ insL (l.drop i) x = l := by
  rw [d, insL, if_neg (by omega), if_pos h, ← d, List.take_append_drop]
theorem insL_gt {l : List Int} {x y : Int} {i : Nat} (d : l.drop i = y :: l.drop (i + 1)) (h : ¬ y < x) (h' : y ≠ x) : l.take i ++ insL (l.drop i) x = l.take i ++ [x] ++ l.drop i := by
  rw [d, insL, if_neg h, if_neg h']; simp
theorem insL_len : ∀ (l : List Int) (x : Int), (insL l x).length ≤ l.length + 1
  | [], x => by simp [insL]
  | y :: r, x => by
    have := insL_len r x
    unfold insL
    split
    · simp; omega
    · split <;> simp
theorem IntsO.take {w : World} {B g c m : Nat} {l : List Int} (h : IntsO w B (.slice (some ⟨g, 0, none⟩) l.length c) l) (hm : m ≤ l.length) : w.ownsRow B 3 1 (.slice (some ⟨g, 0, none⟩) m c) m ((l.take m).map (Value.int .i64)) := by
  refine ⟨by simp; omega, ?_⟩
  rcases h.2 with ⟨h, _⟩ | ⟨g', cap', cur, h, hb, hg, hn, hcap, hcs, htake⟩
  · cases h
  · cases h
    exact Or.inr ⟨g, c, cur, rfl, hb, hg, by omega, hcap, hcs, by rw [List.map_take, ← htake, List.take_take]; congr 1; omega⟩
theorem IntsO.readsDrop {w : World} {B g c i : Nat} {l : List Int} (h : IntsO w B (.slice (some ⟨g, 0, none⟩) l.length c) l) (hi : i ≤ l.length) : Reads w w.heap.size 1 (if c = i then some ⟨g, 0, none⟩ else some ⟨g, i, none⟩) (l.length - i) ((l.drop i).map (Value.int .i64)) := by
  refine ⟨by simp, fun h0 => ?_⟩
  have hlt := (h.lt g rfl).2
  rcases h.2 with ⟨h', _⟩ | ⟨g', cap', cur, h', hb, hg, hn, hcap, hcs, htake⟩
  · cases h'
  · cases h'
    refine ⟨⟨g, i, none⟩, by rw [if_neg (by omega)], hlt, fun j u hu => ?_⟩
    have := World.ownsRow.cells h (g := g) rfl (i + j) u (by simpa using hu)
    have e : (⟨g, 0, none⟩ : Addr).add (i + j) = (⟨g, i, none⟩ : Addr).add j := by unfold Addr.add; split <;> simp_all
    rw [← e]; exact this
theorem reads_of_owns {w : World} {base : Nat} {e : TypeId} {size n : Nat} {A : Option Addr} {C : Nat} {xs : List Value} (h : w.ownsRow base e size (.slice A n C) n xs) : Reads w w.heap.size size A n xs := by
  refine ⟨h.1, fun h0 => ?_⟩
  rcases h.2 with ⟨_, h''⟩ | ⟨g, cap, cur, h', hb, hg, _⟩
  · omega
  · cases h'
    exact ⟨⟨g, 0, none⟩, rfl, (h.lt g rfl).2, fun j u hu => h.cells rfl j u hu⟩
/-- the end of insert: rows put together -/
theorem insert_end {B g i : Nat} {l l' : List Int} {x : Int} {w w1 w2 w3 : World} {v2 v3 : Value} (hsz : w.heap.size ≤ w1.heap.size) (hsz2 : w.heap.size ≤ w2.heap.size) (hi : i ≤ l.length) (hl : l' = l.take i ++ [x] ++ l.drop i)
    (hK : Keep (fun k => k = g) w w2) (hat2 : v2.ownBlock = some g ∨ v2.ownBlock = some w1.heap.size)
    (hown : w3.ownsRow B 3 1 v3 (i + 1 + (l.length - i)) (((l.take i).map (Value.int .i64) ++ [.int .i64 x]) ++ (l.drop i).map (Value.int .i64))) (hg3 : w2.grownBy w3 v2.ownBlock)
    (hat : v3.ownBlock = v2.ownBlock ∨ v3.ownBlock = some w2.heap.size) :
    ∃ g' c', v3 = .slice (some ⟨g', 0, none⟩) l'.length c' ∧ IntsO w3 B (.slice (some ⟨g', 0, none⟩) l'.length c') l' ∧ Keep (fun k => k = g) w w3 ∧ (g' = g ∨ w.heap.size ≤ g') := by
  have hlen : i + 1 + (l.length - i) = l'.length := by rw [hl]; simp; omega
  have hmap : ((l.take i).map (Value.int .i64) ++ [.int .i64 x]) ++ (l.drop i).map (Value.int .i64) = l'.map (Value.int .i64) := by rw [hl]; simp
  rw [hlen, hmap] at hown
  have hX : ∀ k, v2.ownBlock = some k → k = g ∨ w.heap.size ≤ k := by
    intro k hk
    rcases hat2 with h | h <;> rw [h] at hk <;> cases hk
    · exact Or.inl rfl
    · exact Or.inr hsz
  rcases hown.2 with ⟨_, h0⟩ | ⟨g', c', cur, e, hb, _⟩
  · omega
  · refine ⟨g', c', e, by rw [e] at hown; exact hown, hK.grown hg3 hX, ?_⟩
    have e' : v3.ownBlock = some g' := by rw [e]; rfl
    rcases hat with h | h
    · exact hX g' (h ▸ e')
    · rw [h] at e'; cases e'; exact Or.inr hsz2
end Go.Proofs.Ytcmcojmhlgknoaa
