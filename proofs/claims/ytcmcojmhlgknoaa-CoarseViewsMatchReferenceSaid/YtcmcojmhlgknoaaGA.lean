/- Answers about free and busy time, in plain words: marks, grains, cells, views; no program in sight. -/
import Derived.Test.YtcmcojmhlgknoaaYE
import Derived.Laws.BitsLemmas
namespace Go.Proofs.Ytcmcojmhlgknoaa
open Go.RowKit

structure MarkD where
  f : Int
  t : Int
  k : Int
instance : Inhabited MarkD := ⟨⟨0, 0, 0⟩⟩
def windowB (f t : Int) : Bool := decide (-2251799813685248 ≤ f) && (decide (f ≤ t) && decide (t ≤ 2251799813685248))
def markB (m : MarkD) : Bool := decide (1 ≤ m.k) && (decide (m.k ≤ 8) && (windowB m.f m.t && !decide (m.f = m.t)))
def sizeG (g : Int) : Int := if g = 1 then 1440 else if g = 2 then 30 else if g = 3 then 30 else 1
def grainB (g : Int) : Bool := decide (0 ≤ g) && decide (g ≤ 4)
/-- the number of cells of a window at a grain, and the error -/
def cellsG (g f t : Int) : Int × Int :=
  if grainB g && windowB f t then
    if g = 0 then (0, 12) else if f % sizeG g = 0 ∧ t % sizeG g = 0 then (if 65536 < (t - f) / sizeG g then (0, 2) else ((t - f) / sizeG g, 0)) else (0, 1)
  else (0, 1)
def touchB (m : MarkD) (a b : Int) : Bool := decide (m.f < b) && decide (a < m.t)
def bitG (g k : Int) : Nat := if 3 ≤ g then 2 ^ (k - 1).toNat else 1
def numStep (g a b : Int) (o : Nat) (m : MarkD) : Nat := if touchB m a b then o ||| bitG g m.k else o
/-- the number of a cell -/
def numG (g : Int) (l : List MarkD) (a b : Int) : Nat := l.foldl (numStep g a b) 0
def cellN (g : Int) (l : List MarkD) (f : Int) (i : Nat) : Nat := numG g l (f + i * sizeG g) (f + i * sizeG g + sizeG g)
def viewN (g : Int) (l : List MarkD) (f : Int) (n : Nat) : List Nat := (List.range n).map (cellN g l f)
/-- the view and its error -/
def viewG (l : List MarkD) (g f t : Int) : List Nat × Int :=
  if l.all markB then (if (cellsG g f t).2 = 0 then (viewN g l f (cellsG g f t).1.toNat, 0) else ([], (cellsG g f t).2)) else ([], 1)

theorem size_cases {g : Int} : sizeG g = 1440 ∨ sizeG g = 30 ∨ sizeG g = 1 := by
  unfold sizeG
  split
  · exact Or.inl rfl
  · split
    · exact Or.inr (Or.inl rfl)
    · split
      · exact Or.inr (Or.inl rfl)
      · exact Or.inr (Or.inr rfl)
theorem size_pos (g : Int) : 1 ≤ sizeG g ∧ sizeG g ≤ 1440 := by
  unfold sizeG
  split
  · omega
  · split
    · omega
    · split <;> omega
theorem window_iff {f t : Int} : windowB f t = true ↔ -2251799813685248 ≤ f ∧ f ≤ t ∧ t ≤ 2251799813685248 := by simp [windowB]
theorem mark_iff {m : MarkD} : markB m = true ↔ 1 ≤ m.k ∧ m.k ≤ 8 ∧ windowB m.f m.t = true ∧ m.f ≠ m.t := by simp [markB]
/-- what it means that the cells can be told -/
theorem cells_ok {g f t : Int} (h : (cellsG g f t).2 = 0) : (1 ≤ g ∧ g ≤ 4) ∧ windowB f t = true ∧ f % sizeG g = 0 ∧ t % sizeG g = 0 ∧ (cellsG g f t).1 = (t - f) / sizeG g ∧ (t - f) / sizeG g ≤ 65536 := by
  unfold cellsG at h ⊢
  split at h
  · rename_i h1
    rw [if_pos h1]
    simp only [grainB, Bool.and_eq_true, decide_eq_true_eq] at h1
    split at h
    · cases h
    · rename_i h2
      rw [if_neg h2]
      split at h
      · rename_i h3
        rw [if_pos h3]
        split at h
        · cases h
        · rename_i h4
          rw [if_neg h4]
          exact ⟨⟨by omega, h1.1.2⟩, h1.2, h3.1, h3.2, rfl, by omega⟩
      · cases h
  · cases h
theorem cells_num {g f t : Int} (h : (cellsG g f t).2 = 0) : ∃ n : Nat, (cellsG g f t).1 = n ∧ n ≤ 65536 ∧ t = f + n * sizeG g := by
  obtain ⟨hg, hw, h1, h2, h3, h4⟩ := cells_ok h
  rw [window_iff] at hw
  have hs := size_pos g
  have h0 : 0 ≤ (t - f) / sizeG g := Int.ediv_nonneg (by omega) (by omega)
  refine ⟨((t - f) / sizeG g).toNat, by rw [h3]; omega, by omega, ?_⟩
  have hd : (t - f) % sizeG g = 0 := by rw [Int.sub_emod, h1, h2]; simp
  have := Int.mul_ediv_add_emod (t - f) (sizeG g)
  rw [hd] at this
  rw [show (((t - f) / sizeG g).toNat : Int) = (t - f) / sizeG g by omega, Int.mul_comm]
  omega
theorem cells_err {g f t : Int} : (cellsG g f t).2 = 0 ∨ (cellsG g f t).2 = 1 ∨ (cellsG g f t).2 = 2 ∨ (cellsG g f t).2 = 12 := by
  unfold cellsG
  split
  · split
    · simp
    · split
      · split <;> simp
      · simp
  · simp

/-! ### the cells that a mark touches -/
/-- the first cell that is touched, and the cell behind the last one -/
def loG (m : MarkD) (f c : Int) : Int := (max m.f f - f) / c
def inT (m : MarkD) (f t : Int) : Bool := decide (max m.f f < min m.t t)
def hitB (m : MarkD) (f t c i : Int) : Bool := inT m f t && decide (i * c < min m.t t - f)
theorem lo_nonneg {m : MarkD} {f c : Int} (hc : 1 ≤ c) : 0 ≤ loG m f c := Int.ediv_nonneg (by omega) (by omega)
theorem mul_mono {c i j : Int} (hc : 1 ≤ c) (h : i ≤ j) : i * c ≤ j * c := Int.mul_le_mul_of_nonneg_right h (by omega)
theorem touch_iff {m : MarkD} {f c : Int} {n i : Nat} (hc : 1 ≤ c) (hm : m.f < m.t) (hi : i < n) :
    touchB m (f + i * c) (f + i * c + c) = (decide (loG m f c ≤ i) && hitB m f (f + n * c) c i) := by
  have h1 : (i : Int) * c + c ≤ n * c := by
    have := mul_mono hc (show (i : Int) + 1 ≤ (n : Int) by omega)
    rw [Int.add_mul] at this
    omega
  have h0 : 0 ≤ (i : Int) * c := Int.mul_nonneg (by omega) (by omega)
  have hlo : loG m f c ≤ i ↔ max m.f f - f < i * c + c := by
    have : loG m f c < (i : Int) + 1 ↔ max m.f f - f < (i + 1) * c := Int.ediv_lt_iff_lt_mul (by omega)
    rw [Int.add_mul, Int.one_mul] at this
    constructor
    · intro h; exact this.1 (by omega)
    · intro h; have := this.2 h; omega
  rw [Bool.eq_iff_iff]
  simp only [touchB, hitB, inT, Bool.and_eq_true, decide_eq_true_eq, hlo]
  omega
/-- a row of numbers, after the bits have been set from place lo to place i -/
def fillN (old : List Nat) (bit : Nat) (lo i : Int) : List Nat := (List.range old.length).map fun q : Nat => if lo ≤ q ∧ (q : Int) < i then old[q]?.getD 0 ||| bit else old[q]?.getD 0
theorem fillN_len (old : List Nat) (bit : Nat) (lo i : Int) : (fillN old bit lo i).length = old.length := by simp [fillN]
theorem fillN_at {old : List Nat} {bit : Nat} {lo i : Int} {q : Nat} (h : q < old.length) : (fillN old bit lo i)[q]? = some (if lo ≤ q ∧ (q : Int) < i then old[q]?.getD 0 ||| bit else old[q]?.getD 0) := by simp [fillN, h]
theorem fillN_zero (old : List Nat) (bit : Nat) (lo : Int) : fillN old bit lo lo = old := by
  apply List.ext_getElem?
  intro q
  by_cases h : q < old.length
  · rw [fillN_at h, if_neg (by omega)]
    simp [h]
  · rw [List.getElem?_eq_none (by rw [fillN_len]; omega), List.getElem?_eq_none (by omega)]
theorem fillN_step {old : List Nat} {bit : Nat} {lo : Int} {i : Nat} (h : lo ≤ i) (hi : i < old.length) : fillN old bit lo ((i : Int) + 1) = (fillN old bit lo i).set i (((fillN old bit lo i)[i]?.getD 0) ||| bit) := by
  apply List.ext_getElem?
  intro q
  by_cases hq : q < old.length
  · rw [fillN_at hq]
    by_cases e : i = q
    · subst e
      rw [List.getElem?_set_self (by rw [fillN_len]; exact hi), fillN_at hi, if_pos ⟨h, by omega⟩, if_neg (by omega)]
      rfl
    · rw [List.getElem?_set_ne e, fillN_at hq]
      congr 1
      by_cases h2 : lo ≤ (q : Int) ∧ (q : Int) < i
      · rw [if_pos h2, if_pos ⟨h2.1, by omega⟩]
      · rw [if_neg h2, if_neg (by omega)]
  · rw [List.getElem?_eq_none (by rw [fillN_len]; omega), List.getElem?_eq_none (by rw [List.length_set, fillN_len]; omega)]
theorem viewN_len (g : Int) (l : List MarkD) (f : Int) (n : Nat) : (viewN g l f n).length = n := by simp [viewN]
theorem viewN_at {g : Int} {l : List MarkD} {f : Int} {n i : Nat} (h : i < n) : (viewN g l f n)[i]? = some (cellN g l f i) := by simp [viewN, h]
theorem cellN_snoc (g : Int) (l : List MarkD) (m : MarkD) (f : Int) (i : Nat) : cellN g (l ++ [m]) f i = if touchB m (f + i * sizeG g) (f + i * sizeG g + sizeG g) then cellN g l f i ||| bitG g m.k else cellN g l f i := by
  simp [cellN, numG, numStep]
theorem viewN_nil (g f : Int) (n : Nat) : viewN g [] f n = List.replicate n 0 := by
  apply List.ext_getElem?
  intro i
  by_cases h : i < n
  · rw [viewN_at h]
    simp [cellN, numG, h]
  · rw [List.getElem?_eq_none (by rw [viewN_len]; omega), List.getElem?_eq_none (by simp; omega)]
/-- all cells that a mark touches have been filled -/
theorem fill_done {g : Int} {l : List MarkD} {m : MarkD} {f : Int} {n : Nat} {e : Int} (hm : m.f < m.t) (hb : ∀ i : Nat, i < n → loG m f (sizeG g) ≤ i → ((i : Int) < e ↔ hitB m f (f + n * sizeG g) (sizeG g) i = true)) :
    fillN (viewN g l f n) (bitG g m.k) (loG m f (sizeG g)) e = viewN g (l ++ [m]) f n := by
  apply List.ext_getElem?
  intro q
  by_cases h : q < n
  · rw [fillN_at (by rw [viewN_len]; exact h), viewN_at h, viewN_at h, cellN_snoc, touch_iff (size_pos g).1 hm h]
    congr 1
    by_cases h1 : loG m f (sizeG g) ≤ (q : Int)
    · rw [decide_eq_true h1, Bool.true_and]
      by_cases h2 : (q : Int) < e
      · rw [if_pos ⟨h1, h2⟩, (hb q h h1).1 h2]
        rfl
      · rw [if_neg (by omega)]
        have : hitB m f (f + n * sizeG g) (sizeG g) q = false := by
          cases hh : hitB m f (f + n * sizeG g) (sizeG g) q with
          | false => rfl
          | true => exact absurd ((hb q h h1).2 hh) h2
        rw [this]
        rfl
    · rw [if_neg (by omega), decide_eq_false h1]
      rfl
  · rw [List.getElem?_eq_none (by rw [fillN_len, viewN_len]; omega), List.getElem?_eq_none (by rw [viewN_len]; omega)]
/-- a cell that is hit lies in the window, and so do those before it -/
theorem hit_lt {m : MarkD} {f c : Int} {n : Nat} {i : Int} (hc : 1 ≤ c) (h : hitB m f (f + n * c) c i = true) : i < n := by
  simp only [hitB, Bool.and_eq_true, decide_eq_true_eq] at h
  by_cases hi : i < n
  · exact hi
  · have := mul_mono hc (show (n : Int) ≤ i by omega)
    omega
theorem hit_down {m : MarkD} {f t c i j : Int} (hc : 1 ≤ c) (hij : i ≤ j) (h : hitB m f t c j = true) : hitB m f t c i = true := by
  simp only [hitB, Bool.and_eq_true, decide_eq_true_eq] at h ⊢
  have := mul_mono hc hij
  exact ⟨h.1, by omega⟩
theorem fill_end {m : MarkD} {f : Int} {n : Nat} {c e : Int} (hc : 1 ≤ c) (h0 : ∀ j : Int, loG m f c ≤ j → j < e → hitB m f (f + n * c) c j = true) (h1 : hitB m f (f + n * c) c e = false) :
    ∀ i : Nat, i < n → loG m f c ≤ i → ((i : Int) < e ↔ hitB m f (f + n * c) c i = true) := by
  intro i _ hl
  constructor
  · exact h0 i hl
  · intro h
    by_cases hi : (i : Int) < e
    · exact hi
    · rw [hit_down hc (show e ≤ (i : Int) by omega) h] at h1
      cases h1
end Go.Proofs.Ytcmcojmhlgknoaa
