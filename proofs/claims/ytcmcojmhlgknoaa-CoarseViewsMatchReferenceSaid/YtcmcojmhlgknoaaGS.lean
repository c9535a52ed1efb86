/- The plain law of CoarseHides: lists of marks that look alike; two rows of marks that grow one by one. -/
import Derived.Test.YtcmcojmhlgknoaaGR
namespace Go.Proofs.Ytcmcojmhlgknoaa
open Go.RowKit

theorem view_any {g f : Int} {a b : List MarkD} {n : Nat} (h : ∀ i p : Nat, (a.any fun m => touchB m (f + i * sizeG g) (f + i * sizeG g + sizeG g) && (bitG g m.k).testBit p) = b.any fun m => touchB m (f + i * sizeG g) (f + i * sizeG g + sizeG g) && (bitG g m.k).testBit p) : viewN g a f n = viewN g b f n := by
  unfold viewN
  refine List.map_congr_left fun i _ => ?_
  unfold cellN
  apply Nat.eq_of_testBit_eq
  intro p
  rw [num_bit, num_bit]
  exact h i p
theorem split_at {α : Type} {l : List α} {k : Nat} {m : α} (h : l[k]? = some m) : l = l.take k ++ m :: l.drop (k + 1) := by
  obtain ⟨hk, rfl⟩ := List.getElem?_eq_some_iff.1 h
  rw [List.getElem_cons_drop, List.take_append_drop]
theorem rev_split {l : List MarkD} {k : Nat} {m : MarkD} (h : l[k]? = some m) (x : MarkD) : l.reverse.set (l.length - 1 - k) x = (l.drop (k + 1)).reverse ++ x :: (l.take k).reverse := by
  obtain ⟨hk, e⟩ := List.getElem?_eq_some_iff.1 h
  have h1 : l.reverse = (l.drop (k + 1)).reverse ++ m :: (l.take k).reverse := by
    conv => lhs; rw [split_at h]
    simp
  rw [h1, List.set_append_right _ _ (by simp; omega)]
  congr 1
  have : l.length - 1 - k - (l.drop (k + 1)).reverse.length = 0 := by simp; omega
  rw [this]
  rfl
theorem any_split {l : List MarkD} {k : Nat} {m : MarkD} (h : l[k]? = some m) (P : MarkD → Bool) : l.any P = ((l.take k).any P || P m || (l.drop (k + 1)).any P) := by
  conv => lhs; rw [split_at h]
  simp [Bool.or_assoc]
theorem hides_rev {l : List MarkD} {k : Nat} {m : MarkD} {mid : Int} (hk : l[k]? = some m) (hv : l.all markB = true) (h1 : m.f < mid) (h2 : mid < m.t) :
    (l.reverse.set (l.length - 1 - k) ⟨m.f, mid, m.k⟩ ++ [(⟨mid, m.t, m.k⟩ : MarkD)]).all markB = true ∧ ∀ (g f : Int) (n : Nat), viewN g l f n = viewN g (l.reverse.set (l.length - 1 - k) ⟨m.f, mid, m.k⟩ ++ [⟨mid, m.t, m.k⟩]) f n := by
  rw [rev_split hk]
  have hm : markB m = true := List.all_eq_true.1 hv m (List.mem_of_getElem? hk)
  have hva := hv
  rw [split_at hk] at hva
  simp only [List.all_append, List.all_cons, Bool.and_eq_true] at hva
  rw [mark_iff, window_iff] at hm
  refine ⟨?_, fun g f n => view_any fun i p => ?_⟩
  · simp only [List.all_append, List.all_cons, List.all_nil, List.all_reverse, Bool.and_true, Bool.and_eq_true]
    refine ⟨⟨hva.2.2, ?_, hva.1⟩, ?_⟩
    · rw [mark_iff, window_iff]; dsimp only; omega
    · rw [mark_iff, window_iff]; dsimp only; omega
  · rw [any_split hk]
    simp only [List.any_append, List.any_cons, List.any_nil, List.any_reverse, Bool.or_false]
    have hs := (size_pos g).1
    generalize f + (i : Int) * sizeG g = c
    have e : touchB m c (c + sizeG g) = (touchB ⟨m.f, mid, m.k⟩ c (c + sizeG g) || touchB ⟨mid, m.t, m.k⟩ c (c + sizeG g)) := by
      rw [Bool.eq_iff_iff]
      simp only [touchB, Bool.or_eq_true, Bool.and_eq_true, decide_eq_true_eq]
      omega
    rw [e]
    cases touchB ⟨m.f, mid, m.k⟩ c (c + sizeG g) <;> cases touchB ⟨mid, m.t, m.k⟩ c (c + sizeG g) <;> cases (bitG g m.k).testBit p <;> cases (l.take k).any (fun m => touchB m c (c + sizeG g) && (bitG g m.k).testBit p) <;> cases (l.drop (k + 1)).any (fun m => touchB m c (c + sizeG g) && (bitG g m.k).testBit p) <;> rfl
theorem hides_turn {l : List MarkD} (hv : l.all markB = true) : l.reverse.all markB = true ∧ ∀ (g f : Int) (n : Nat), viewN g l f n = viewN g l.reverse f n := by
  refine ⟨by rw [List.all_reverse]; exact hv, fun g f n => view_any fun i p => by rw [List.any_reverse]⟩
theorem hides_mov {l : List MarkD} {k : Nat} {m : MarkD} {g f bg en : Int} (hk : l[k]? = some m) (hv : l.all markB = true) (hf : f % sizeG g = 0)
    (hr : -100000 ≤ m.f ∧ m.t ≤ 100000) (h1 : m.f - m.f % sizeG g ≤ bg) (h2 : bg < m.f - m.f % sizeG g + sizeG g) (h3 : m.t - 1 - (m.t - 1) % sizeG g < en) (h4 : en ≤ m.t - 1 - (m.t - 1) % sizeG g + sizeG g) (h5 : bg < en) :
    ((l.take k ++ l.drop (k + 1)).reverse ++ [(⟨bg, en, m.k⟩ : MarkD)]).all markB = true ∧ ∀ n : Nat, viewN g l f n = viewN g ((l.take k ++ l.drop (k + 1)).reverse ++ [⟨bg, en, m.k⟩]) f n := by
  have hm : markB m = true := List.all_eq_true.1 hv m (List.mem_of_getElem? hk)
  have hva := hv
  rw [split_at hk] at hva
  simp only [List.all_append, List.all_cons, Bool.and_eq_true] at hva
  rw [mark_iff, window_iff] at hm
  have hsz := size_pos g
  have e1 := Int.emod_nonneg m.f (show sizeG g ≠ 0 by omega)
  have e2 := Int.emod_lt_of_pos m.f (show 0 < sizeG g by omega)
  have e3 := Int.emod_nonneg (m.t - 1) (show sizeG g ≠ 0 by omega)
  have e4 := Int.emod_lt_of_pos (m.t - 1) (show 0 < sizeG g by omega)
  refine ⟨?_, fun n => view_any fun i p => ?_⟩
  · simp only [List.all_append, List.all_cons, List.all_nil, List.all_reverse, Bool.and_true, Bool.and_eq_true]
    refine ⟨⟨hva.1, hva.2.2⟩, ?_⟩
    rw [mark_iff, window_iff]; dsimp only; omega
  · rw [any_split hk]
    simp only [List.any_append, List.any_cons, List.any_nil, List.any_reverse, Bool.or_false]
    have hc : (f + (i : Int) * sizeG g) % sizeG g = 0 := by rw [Int.add_mul_emod_self_right]; exact hf
    have e : touchB m (f + (i : Int) * sizeG g) (f + (i : Int) * sizeG g + sizeG g) = touchB ⟨bg, en, m.k⟩ (f + (i : Int) * sizeG g) (f + (i : Int) * sizeG g + sizeG g) := by
      generalize f + (i : Int) * sizeG g = c at hc ⊢
      rw [Bool.eq_iff_iff]
      simp only [touchB, Bool.and_eq_true, decide_eq_true_eq]
      rcases size_cases (g := g) with h | h | h <;> rw [h] at hc h1 h2 h3 h4 ⊢ <;> omega
    rw [e]
    cases (touchB ⟨bg, en, m.k⟩ (f + (i : Int) * sizeG g) (f + (i : Int) * sizeG g + sizeG g) && (bitG g m.k).testBit p) <;> cases (l.take k).any (fun m => touchB m (f + (i : Int) * sizeG g) (f + (i : Int) * sizeG g + sizeG g) && (bitG g m.k).testBit p) <;> cases (l.drop (k + 1)).any (fun m => touchB m (f + (i : Int) * sizeG g) (f + (i : Int) * sizeG g + sizeG g) && (bitG g m.k).testBit p) <;> rfl
theorem tmod_in (x s : Int) : 1 ≤ s → -s < x.tmod s ∧ x.tmod s < s := fun hs => by
  refine ⟨?_, Int.tmod_lt_of_pos x (by omega)⟩
  rcases Int.le_total 0 x with h | h
  · have := Int.tmod_nonneg s h
    omega
  · obtain ⟨y, rfl⟩ : ∃ y, x = -y := ⟨-x, by omega⟩
    rw [Int.neg_tmod]
    have := Int.tmod_lt_of_pos y (show 0 < s by omega)
    omega
/-- the remainder that the law computes -/
theorem tmod_floor {x s : Int} (hs : 1 ≤ s) : (x.tmod s + s).tmod s = x % s := by
  have h1 : 0 ≤ x.tmod s + s := by
    have := Int.tmod_lt_of_pos x (show 0 < s by omega)
    have h2 : -s < x.tmod s := by
      rcases Int.le_total 0 x with h | h
      · have := Int.tmod_nonneg s h
        omega
      · obtain ⟨y, rfl⟩ : ∃ y, x = -y := ⟨-x, by omega⟩
        rw [Int.neg_tmod]
        have := Int.tmod_lt_of_pos y (show 0 < s by omega)
        omega
    omega
  rw [Int.tmod_eq_emod_of_nonneg h1, Int.add_emod_right]
  rcases Int.le_total x 0 with h | h
  · obtain ⟨y, rfl⟩ : ∃ y, x = -y := ⟨-x, by omega⟩
    rw [Int.neg_tmod, Int.tmod_eq_emod_of_nonneg (show 0 ≤ y by omega)]
    have hy := Int.emod_add_mul_ediv y s
    conv => rhs; rw [← hy]
    rw [show -(y % s + s * (y / s)) = -(y % s) + s * (-(y / s)) by rw [Int.mul_neg]; omega, Int.add_mul_emod_self_left]
  · rw [Int.tmod_eq_emod_of_nonneg h, Int.emod_emod]

/-! ### what the loop has gathered -/
def revAt (l : List MarkD) (j : Nat) : List MarkD := (l.drop j).reverse
def movAt (l : List MarkD) (k j : Nat) : List MarkD := (if j ≤ k then (l.take k).drop j ++ l.drop (k + 1) else l.drop j).reverse
theorem revAt_step {l : List MarkD} {j : Nat} {x : MarkD} (h : l[j]? = some x) : revAt l j = revAt l (j + 1) ++ [x] := by
  obtain ⟨hj, rfl⟩ := List.getElem?_eq_some_iff.1 h
  unfold revAt
  rw [List.drop_eq_getElem_cons hj, List.reverse_cons]
theorem movAt_step {l : List MarkD} {k j : Nat} {x : MarkD} (h : l[j]? = some x) (hne : j ≠ k) : movAt l k j = movAt l k (j + 1) ++ [x] := by
  obtain ⟨hj, rfl⟩ := List.getElem?_eq_some_iff.1 h
  unfold movAt
  by_cases hk : j < k
  · rw [if_pos (by omega), if_pos (by omega), List.drop_eq_getElem_cons (show j < (l.take k).length by simp; omega), List.getElem_take, List.cons_append, List.reverse_cons]
  · rw [if_neg (by omega), if_neg (by omega), List.drop_eq_getElem_cons hj, List.reverse_cons]
theorem movAt_same (l : List MarkD) (k : Nat) : movAt l k k = movAt l k (k + 1) := by
  unfold movAt
  rw [if_pos (Nat.le_refl _), if_neg (by omega), List.drop_eq_nil_of_le (by simp; omega), List.nil_append]
theorem movAt_end {l : List MarkD} {k : Nat} (hk : k < l.length) : movAt l k l.length = [] := by
  unfold movAt
  rw [if_neg (by omega)]
  simp
theorem movAt_zero (l : List MarkD) (k : Nat) : movAt l k 0 = (l.take k ++ l.drop (k + 1)).reverse := by unfold movAt; rw [if_pos (Nat.zero_le _), List.drop_zero]
theorem movAt_len (l : List MarkD) (k j : Nat) : (movAt l k j).length ≤ l.length := by
  unfold movAt
  split <;> simp <;> omega
theorem markCells_set : ∀ {l : List MarkD} {i : Nat} {m : MarkD} {y : Int}, l[i]? = some m → (markCells l).set (i * 3 + 1) (.int .i64 y) = markCells (l.set i ⟨m.f, y, m.k⟩)
  | [], _, _, _, h => by simp at h
  | x :: l, 0, m, y, h => by
    simp only [List.getElem?_cons_zero, Option.some.injEq] at h
    subst h
    rfl
  | x :: l, i + 1, m, y, h => by
    have ih := markCells_set (l := l) (i := i) (m := m) (y := y) (by simpa using h)
    rw [show (i + 1) * 3 + 1 = (i * 3 + 1) + 3 by omega]
    simp only [List.set_cons_succ]
    show (markCells (x :: l)).set (i * 3 + 1 + 3) _ = markCells (x :: l.set i ⟨m.f, y, m.k⟩)
    have : markCells (x :: l) = .int .i64 x.f :: .int .i64 x.t :: .int .i64 x.k :: markCells l := rfl
    rw [this, show i * 3 + 1 + 3 = (i * 3 + 1) + 1 + 1 + 1 by omega, List.set_cons_succ, List.set_cons_succ, List.set_cons_succ, ih]
    rfl

/-! ### two rows of marks -/
def MRow (B : Nat) (w : World) (g n c : Nat) (l : List MarkD) : Prop := w.ownsRow B 47 3 (.slice (some ⟨g, 0, none⟩) n c) n (markCells l) ∧ n = l.length
structure MTwo (B : Nat) (w : World) (g1 n1 c1 : Nat) (l1 : List MarkD) (g2 n2 c2 : Nat) (l2 : List MarkD) : Prop where
  o1 : MRow B w g1 n1 c1 l1
  o2 : MRow B w g2 n2 c2 l2
  d12 : g1 ≠ g2
section
variable {B : Nat} {w w' : World} {g1 n1 c1 g2 n2 c2 : Nat} {l1 l2 : List MarkD}
theorem MRow.ext {g n c : Nat} {l : List MarkD} (h : MRow B w g n c l) (k : Ext w w') : MRow B w' g n c l := ⟨owns_ext h.1 k, h.2⟩
theorem MRow.lt {g n c : Nat} {l : List MarkD} (h : MRow B w g n c l) : B ≤ g ∧ g < w.heap.size := h.1.lt g rfl
theorem MRow.read {g n c : Nat} {l : List MarkD} (h : MRow B w g n c l) : Marks w (.slice (some ⟨g, 0, none⟩) n c) l := by
  obtain ⟨h1, h2⟩ := h
  subst h2
  exact MarksO.read h1
theorem MRow.empty {g : Nat} (h : Blk w g 47 #[]) (hB : B ≤ g) : MRow B w g 0 0 [] :=
  ⟨⟨rfl, .inr ⟨g, 0, #[], rfl, hB, h, Nat.le_refl _, by unfold maxLen; omega, rfl, rfl⟩⟩, rfl⟩
theorem MRow.far {g n c g' : Nat} {l : List MarkD} (h : MRow B w g n c l) (hg : w.grownBy w' (some g')) (hne : g ≠ g') : MRow B w' g n c l :=
  ⟨((Keep.refl (fun k => k = g') w).grown hg (fun k e => Or.inl (by cases e; rfl))).owns h.1 (fun k e => by cases e; exact hne), h.2⟩
theorem MTwo.ext (h : MTwo B w g1 n1 c1 l1 g2 n2 c2 l2) (k : Ext w w') : MTwo B w' g1 n1 c1 l1 g2 n2 c2 l2 := ⟨h.o1.ext k, h.o2.ext k, h.d12⟩
theorem MTwo.swap (h : MTwo B w g1 n1 c1 l1 g2 n2 c2 l2) : MTwo B w g2 n2 c2 l2 g1 n1 c1 l1 := ⟨h.o2, h.o1, h.d12.symm⟩
theorem MTwo.push {v : Value} {x y z : Int} (h : MTwo B w g1 n1 c1 l1 g2 n2 c2 l2) (hown : w'.ownsRow B 47 3 v (n1 + 1) (markCells l1 ++ [.int .i64 x, .int .i64 y, .int .i64 z])) (hg : w.grownBy w' (some g1)) (hat : v.ownBlock = some g1 ∨ v.ownBlock = some w.heap.size) :
    ∃ g c, v = .slice (some ⟨g, 0, none⟩) (n1 + 1) c ∧ MTwo B w' g (n1 + 1) c (l1 ++ [⟨x, y, z⟩]) g2 n2 c2 l2 := by
  obtain ⟨g, c, rfl⟩ := owns_pos hown (by omega)
  have h2 := h.o2.lt
  have hg' : g = g1 ∨ g = w.heap.size := by
    rcases hat with e | e
    · cases e; exact Or.inl rfl
    · cases e; exact Or.inr rfl
  refine ⟨g, c, rfl, ⟨⟨by rw [markCells_app]; exact hown, by rw [List.length_append, ← h.o1.2]; rfl⟩, h.o2.far hg h.d12.symm, ?_⟩⟩
  rcases hg' with rfl | rfl
  · exact h.d12
  · omega
theorem MTwo.put {i : Nat} {m : MarkD} {y : Int} (h : MTwo B w g1 n1 c1 l1 g2 n2 c2 l2) (hi : l1[i]? = some m) : MTwo B (w.setCell ⟨g1, i * 3 + 1, none⟩ (.int .i64 y)) g1 n1 c1 (l1.set i ⟨m.f, y, m.k⟩) g2 n2 c2 l2 := by
  obtain ⟨a, b⟩ := h.o1.1.stored (i * 3 + 1) (.int .i64 y)
  rw [markCells_set hi] at a
  exact ⟨⟨a, by rw [List.length_set]; exact h.o1.2⟩, h.o2.far b h.d12.symm, h.d12⟩
end
end Go.Proofs.Ytcmcojmhlgknoaa
