/- Plain laws of views: bits of numbers, coarser views, witnesses. -/
import Derived.Test.YtcmcojmhlgknoaaGL
namespace Go.Proofs.Ytcmcojmhlgknoaa
open Go.RowKit

/-! ### bits -/
theorem fold_bit (g a b : Int) (p : Nat) : ∀ (l : List MarkD) (o : Nat), (l.foldl (numStep g a b) o).testBit p = (o.testBit p || l.any fun m => touchB m a b && (bitG g m.k).testBit p)
  | [], o => by simp
  | m :: l, o => by
    rw [List.foldl_cons, fold_bit g a b p l, List.any_cons]
    unfold numStep
    cases touchB m a b with
    | true => simp [Nat.testBit_or, Bool.or_assoc]
    | false => simp
theorem num_bit (g a b : Int) (l : List MarkD) (p : Nat) : (numG g l a b).testBit p = l.any fun m => touchB m a b && (bitG g m.k).testBit p := by
  unfold numG
  rw [fold_bit]
  simp
theorem foldJ_bit (to : Int) (p : Nat) : ∀ (l : List Nat) (o : Nat), (l.foldl (fun o x => o ||| bitN to x) o).testBit p = (o.testBit p || l.any fun x => (bitN to x).testBit p)
  | [], o => by simp
  | x :: l, o => by
    rw [List.foldl_cons, foldJ_bit to p l, List.any_cons, Nat.testBit_or, Bool.or_assoc]
theorem join_bit (to : Int) (l : List Nat) (p : Nat) : (joinN to l).testBit p = l.any fun x => (bitN to x).testBit p := by
  unfold joinN
  rw [foldJ_bit]
  simp
theorem bitG_pos (g k : Int) : bitG g k ≠ 0 := by
  unfold bitG
  split
  · exact Nat.pos_iff_ne_zero.1 (Nat.two_pow_pos _)
  · decide
theorem num_zero {g a b : Int} {l : List MarkD} : numG g l a b = 0 ↔ l.any (fun m => touchB m a b) = false := by
  constructor
  · intro h
    rw [Bool.eq_false_iff]
    intro h2
    obtain ⟨m, hm, ht⟩ := List.any_eq_true.1 h2
    obtain ⟨p, hp⟩ := Nat.exists_testBit_of_ne_zero (bitG_pos g m.k)
    have := num_bit g a b l p
    rw [h, Nat.zero_testBit] at this
    have h3 : (l.any fun m => touchB m a b && (bitG g m.k).testBit p) = true := List.any_eq_true.2 ⟨m, hm, by rw [ht, hp]; rfl⟩
    rw [h3] at this
    cases this
  · intro h
    apply Nat.eq_of_testBit_eq
    intro p
    rw [num_bit, Nat.zero_testBit, Bool.eq_false_iff]
    intro h2
    obtain ⟨m, hm, ht⟩ := List.any_eq_true.1 h2
    rw [Bool.and_eq_true] at ht
    rw [Bool.eq_false_iff] at h
    exact h (List.any_eq_true.2 ⟨m, hm, ht.1⟩)
theorem bitG_low {g : Int} (h : g ≤ 2) (k : Int) : bitG g k = 1 := if_neg (by omega)
theorem bitG_high {g : Int} (h : 3 ≤ g) (k : Int) : bitG g k = 2 ^ (k - 1).toNat := if_pos h
theorem one_bit (p : Nat) : Nat.testBit 1 p = decide (p = 0) := by
  rw [Bool.eq_iff_iff, decide_eq_true_iff, Nat.testBit_one_eq_true_iff_self_eq_zero]
theorem min_bit (x p : Nat) : (min x 1).testBit p = (decide (p = 0) && decide (x ≠ 0)) := by
  by_cases h : x = 0
  · subst h; simp
  · rw [Nat.min_eq_right (by omega), one_bit]; simp [h]

/-! ### the coarser view -/
theorem touch_split {m : MarkD} {a s : Int} {r : Nat} (hs : 1 ≤ s) (hm : m.f < m.t) (hr : 1 ≤ r) : touchB m a (a + r * s) = (List.range r).any fun q => touchB m (a + q * s) (a + q * s + s) := by
  rw [Bool.eq_iff_iff, List.any_eq_true]
  simp only [touchB, Bool.and_eq_true, decide_eq_true_eq, List.mem_range]
  have h0 : ∀ q : Nat, q < r → (q : Int) * s + s ≤ r * s := fun q hq => by
    have := mul_mono hs (show (q : Int) + 1 ≤ (r : Int) by omega)
    rw [Int.add_mul, Int.one_mul] at this
    exact this
  have h1 : ∀ q : Nat, 0 ≤ (q : Int) * s := fun q => Int.mul_nonneg (by omega) (by omega)
  constructor
  · rintro ⟨ha, hb⟩
    by_cases h : m.f ≤ a
    · refine ⟨0, by omega, ?_, ?_⟩
      · simp; omega
      · simp; omega
    · have hd0 : 0 ≤ (m.f - a) / s := Int.ediv_nonneg (by omega) (by omega)
      have hd1 : s * ((m.f - a) / s) ≤ m.f - a := Int.mul_ediv_self_le (by omega)
      have hd2 : m.f - a < s * ((m.f - a) / s) + s := Int.lt_mul_ediv_self_add (by omega)
      obtain ⟨q, hq⟩ : ∃ q : Nat, (m.f - a) / s = (q : Int) := ⟨_, (Int.toNat_of_nonneg hd0).symm⟩
      rw [hq, Int.mul_comm] at hd1 hd2
      refine ⟨q, ?_, by omega, by omega⟩
      have h2 : (q : Int) * s < r * s := by omega
      have := Int.lt_of_mul_lt_mul_right h2 (by omega)
      omega
  · rintro ⟨q, hq, h2, h3⟩
    have := h0 q hq
    have := h1 q
    omega
theorem part_range (F : Nat → Nat) (n r j : Nat) (h : j * r + r ≤ n) : (((List.range n).map F).drop (j * r)).take r = (List.range r).map fun q => F (j * r + q) := by
  apply List.ext_getElem?
  intro q
  by_cases hq : q < r
  · rw [List.getElem?_take_of_lt hq, List.getElem?_drop]
    simp [hq, show j * r + q < n by omega]
  · rw [List.getElem?_eq_none (by simp; omega), List.getElem?_eq_none (by simp; omega)]
theorem cell_join {g to f : Int} {l : List MarkD} {j r : Nat} (h1 : 1 ≤ to) (h2 : to ≤ g) (h3 : g ≤ 4) (hr : r = ratioG g to) (hl : l.all markB = true) :
    joinN to ((List.range r).map fun q => cellN g l f (j * r + q)) = cellN to l f j := by
  obtain ⟨hrs, hr1, _⟩ := ratio_is h1 h2 h3
  rw [← hr] at hrs hr1
  have hs := (size_pos g).1
  have hpos : ∀ m ∈ l, m.f < m.t := fun m hm => by
    obtain ⟨_, _, h4, h5⟩ := mark_iff.1 (List.all_eq_true.1 hl m hm)
    rw [window_iff] at h4
    omega
  have hsp : ∀ m ∈ l, touchB m (f + j * sizeG to) (f + j * sizeG to + sizeG to) = (List.range r).any fun q => touchB m (f + (j * r + q : Nat) * sizeG g) (f + (j * r + q : Nat) * sizeG g + sizeG g) := fun m hm => by
    have := touch_split (a := f + j * sizeG to) hs (hpos m hm) hr1
    rw [hrs] at this ⊢
    rw [this]
    congr 1
    funext q
    have e : f + (j : Int) * (r * sizeG g) + q * sizeG g = f + (j * r + q : Nat) * sizeG g := by
      rw [Int.natCast_add, Int.natCast_mul, Int.add_mul, Int.mul_assoc]
      omega
    rw [e]
  by_cases hlow : to ≤ 2
  · have hN : ∀ x, bitN to x = min x 1 := fun x => if_pos hlow
    apply Nat.eq_of_testBit_eq
    intro p
    rw [join_bit, cellN, num_bit]
    simp only [hN, min_bit, bitG_low hlow, one_bit]
    rw [Bool.eq_iff_iff, List.any_eq_true, List.any_eq_true]
    constructor
    · rintro ⟨x, hx, hb⟩
      obtain ⟨q, hq, rfl⟩ := List.mem_map.1 hx
      rw [Bool.and_eq_true, decide_eq_true_iff, decide_eq_true_iff] at hb
      have h5 : ¬ (l.any fun m => touchB m (f + (j * r + q : Nat) * sizeG g) (f + (j * r + q : Nat) * sizeG g + sizeG g)) = false := fun h => hb.2 (num_zero.2 h)
      obtain ⟨m, hm, ht⟩ := List.any_eq_true.1 (by simpa using h5)
      refine ⟨m, hm, ?_⟩
      rw [hsp m hm, hb.1]
      simp only [decide_true, Bool.and_true]
      exact List.any_eq_true.2 ⟨q, hq, ht⟩
    · rintro ⟨m, hm, hb⟩
      rw [Bool.and_eq_true, hsp m hm, decide_eq_true_iff] at hb
      obtain ⟨q, hq, ht⟩ := List.any_eq_true.1 hb.1
      refine ⟨_, List.mem_map_of_mem hq, ?_⟩
      rw [Bool.and_eq_true, decide_eq_true_iff, decide_eq_true_iff]
      refine ⟨hb.2, fun h => ?_⟩
      have := num_zero.1 h
      rw [Bool.eq_false_iff] at this
      exact this (List.any_eq_true.2 ⟨m, hm, ht⟩)
  · have hN : ∀ x, bitN to x = x := fun x => if_neg hlow
    have hG : ∀ k, bitG to k = bitG g k := fun k => by rw [bitG_high (by omega), bitG_high (by omega)]
    apply Nat.eq_of_testBit_eq
    intro p
    rw [join_bit, cellN, num_bit]
    simp only [hN, hG]
    rw [Bool.eq_iff_iff, List.any_eq_true, List.any_eq_true]
    constructor
    · rintro ⟨x, hx, hb⟩
      obtain ⟨q, hq, rfl⟩ := List.mem_map.1 hx
      rw [cellN, num_bit] at hb
      obtain ⟨m, hm, ht⟩ := List.any_eq_true.1 hb
      rw [Bool.and_eq_true] at ht
      refine ⟨m, hm, ?_⟩
      rw [hsp m hm, ht.2, Bool.and_true]
      exact List.any_eq_true.2 ⟨q, hq, ht.1⟩
    · rintro ⟨m, hm, hb⟩
      rw [Bool.and_eq_true, hsp m hm] at hb
      obtain ⟨q, hq, ht⟩ := List.any_eq_true.1 hb.1
      refine ⟨_, List.mem_map_of_mem hq, ?_⟩
      rw [cellN, num_bit]
      exact List.any_eq_true.2 ⟨m, hm, by rw [ht, hb.2]; rfl⟩
/-- the view at a coarser grain follows from the view -/
theorem view_coarser {g to f : Int} {l : List MarkD} {n m r : Nat} (h1 : 1 ≤ to) (h2 : to ≤ g) (h3 : g ≤ 4) (hr : r = ratioG g to) (hn : n = m * r) (hl : l.all markB = true) :
    coarsL to r (viewN g l f n) m = viewN to l f m := by
  refine List.map_congr_left fun j hj => ?_
  rw [List.mem_range] at hj
  have hjr : j * r + r ≤ n := by
    have := Nat.mul_le_mul_right r (show j + 1 ≤ m from hj)
    rw [Nat.add_mul, Nat.one_mul] at this
    omega
  unfold viewN
  rw [part_range _ _ _ _ hjr]
  exact cell_join h1 h2 h3 hr hl
theorem size_mono {g to : Int} (h1 : 1 ≤ to) (h2 : to ≤ g) (h3 : g ≤ 4) : sizeG g ≤ sizeG to := by
  obtain ⟨hr, h, _⟩ := ratio_is h1 h2 h3
  have hs := (size_pos g).1
  rw [hr]
  have := Int.mul_le_mul_of_nonneg_right (show (1 : Int) ≤ ratioG g to by omega) (show 0 ≤ sizeG g by omega)
  omega
/-- lists that are the same at a grain are the same at a coarser one -/
theorem same_coarser {g to f t : Int} {a b : List MarkD} {n : Nat} (h1 : 1 ≤ to) (h2 : to ≤ g) (hg : (cellsG g f t).2 = 0) (ht : (cellsG to f t).2 = 0) (hn : (cellsG g f t).1 = n) (ha : a.all markB = true) (hb : b.all markB = true)
    (h : viewN g a f n = viewN g b f n) : viewN to a f (cellsG to f t).1.toNat = viewN to b f (cellsG to f t).1.toNat := by
  obtain ⟨m, hm, _⟩ := cells_num ht
  have hg4 := (cells_ok hg).1.2
  have hnm := cells_ratio hg ht h2 hn hm
  rw [hm]
  show viewN to a f m = viewN to b f m
  rw [← view_coarser h1 h2 hg4 rfl hnm ha, ← view_coarser h1 h2 hg4 rfl hnm hb, h]

/-! ### the witness -/
theorem bitB_nat (x k : Nat) : bitB (x : Int) k = x.testBit k := by
  unfold bitB
  rw [Nat.testBit_eq_decide_div_mod_eq, decide_eq_decide]
  have e : (x : Int) / 2 ^ k % 2 = ((x / 2 ^ k % 2 : Nat) : Int) := by
    rw [Int.natCast_emod, Int.natCast_ediv, Int.natCast_pow]
    rfl
  rw [e]
  omega
theorem wit_mem {g f : Int} {view : List Int} {n : Nat} {m : MarkD} : m ∈ witL g f view n ↔ ∃ i k : Nat, i < n ∧ k < 8 ∧ bitB (view[i]?.getD 0) k = true ∧ m = ⟨f + i * sizeG g, f + (i + 1) * sizeG g, (k : Int) + 1⟩ := by
  unfold witL cellM
  simp only [List.mem_flatMap, List.mem_range, List.mem_filterMap]
  constructor
  · rintro ⟨i, hi, k, hk, h⟩
    split at h
    · rename_i hb
      exact ⟨i, k, hi, hk, hb, (Option.some.inj h).symm⟩
    · cases h
  · rintro ⟨i, k, hi, hk, hb, rfl⟩
    exact ⟨i, hi, k, hk, by rw [if_pos hb]⟩
theorem wit_valid {g f t : Int} {view : List Int} {n : Nat} (hg : (cellsG g f t).2 = 0) (hn : (cellsG g f t).1 = n) : (witL g f view n).all markB = true := by
  refine List.all_eq_true.2 fun m hm => ?_
  obtain ⟨i, k, hi, hk, _, rfl⟩ := wit_mem.1 hm
  obtain ⟨n', e1, _, e2⟩ := cells_num hg
  obtain rfl : n' = n := by omega
  have hw := window_iff.1 (cells_ok hg).2.1
  have hs := (size_pos g).1
  have h0 : 0 ≤ (i : Int) * sizeG g := Int.mul_nonneg (by omega) (by omega)
  have h1 : ((i : Int) + 1) * sizeG g ≤ n' * sizeG g := mul_mono hs (by omega)
  have h2 : ((i : Int) + 1) * sizeG g = (i : Int) * sizeG g + sizeG g := by rw [Int.add_mul, Int.one_mul]
  rw [mark_iff, window_iff]
  dsimp only
  rw [h2] at h1 ⊢
  omega
/-- the numbers of the witness are the view -/
theorem wit_cell {g f : Int} {v : List Nat} {n i : Nat} (hi : i < n) (hv : v[i]?.getD 0 < 2 ^ 8) (hv2 : g ≤ 2 → v[i]?.getD 0 ≤ 1) : cellN g (witL g f (v.map fun k : Nat => (k : Int)) n) f i = v[i]?.getD 0 := by
  have hs := (size_pos g).1
  have hview : ∀ j : Nat, (v.map fun k : Nat => (k : Int))[j]?.getD 0 = ((v[j]?.getD 0 : Nat) : Int) := fun j => by
    rw [List.getElem?_map]
    cases v[j]? <;> rfl
  have htouch : ∀ (j k : Nat), touchB ⟨f + j * sizeG g, f + (j + 1) * sizeG g, (k : Int) + 1⟩ (f + i * sizeG g) (f + i * sizeG g + sizeG g) = decide (j = i) := fun j k => by
    rw [Bool.eq_iff_iff]
    simp only [touchB, Bool.and_eq_true, decide_eq_true_eq]
    have e1 : ((j : Int) + 1) * sizeG g = (j : Int) * sizeG g + sizeG g := by rw [Int.add_mul, Int.one_mul]
    have e2 : ((i : Int) + 1) * sizeG g = (i : Int) * sizeG g + sizeG g := by rw [Int.add_mul, Int.one_mul]
    rw [e1]
    constructor
    · rintro ⟨h1, h2⟩
      by_cases h : j = i
      · exact h
      · exfalso
        rcases Nat.lt_or_gt_of_ne h with h | h
        · have := mul_mono hs (show (j : Int) + 1 ≤ i by omega)
          omega
        · have := mul_mono hs (show (i : Int) + 1 ≤ j by omega)
          omega
    · rintro rfl
      omega
  apply Nat.eq_of_testBit_eq
  intro p
  rw [cellN, num_bit, Bool.eq_iff_iff, List.any_eq_true]
  constructor
  · rintro ⟨m, hm, hb⟩
    obtain ⟨j, k, hj, hk, hbit, rfl⟩ := wit_mem.1 hm
    rw [Bool.and_eq_true, htouch, decide_eq_true_iff] at hb
    obtain ⟨rfl, hb⟩ := hb
    rw [hview, bitB_nat] at hbit
    by_cases hg : 3 ≤ g
    · rw [bitG_high hg] at hb
      dsimp only at hb
      rw [show ((k : Int) + 1 - 1).toNat = k by omega, Nat.testBit_two_pow, decide_eq_true_iff] at hb
      rw [← hb]
      exact hbit
    · rw [bitG_low (by omega), one_bit, decide_eq_true_iff] at hb
      subst hb
      have h1 := hv2 (by omega)
      have h2 : v[j]?.getD 0 ≠ 0 := fun h => by rw [h, Nat.zero_testBit] at hbit; cases hbit
      rw [show v[j]?.getD 0 = 1 by omega]
      rfl
  · intro hb
    by_cases hg : 3 ≤ g
    · have hp : p < 8 := by
        by_cases h : p < 8
        · exact h
        · have := Nat.testBit_lt_two_pow (Nat.lt_of_lt_of_le hv (Nat.pow_le_pow_right (by decide) (show 8 ≤ p by omega)))
          rw [this] at hb
          cases hb
      refine ⟨_, wit_mem.2 ⟨i, p, hi, hp, by rw [hview, bitB_nat]; exact hb, rfl⟩, ?_⟩
      rw [htouch, bitG_high hg]
      dsimp only
      rw [show ((p : Int) + 1 - 1).toNat = p by omega, Nat.testBit_two_pow]
      simp
    · have h1 := hv2 (by omega)
      have h2 : v[i]?.getD 0 ≠ 0 := fun h => by rw [h, Nat.zero_testBit] at hb; cases hb
      have h3 : v[i]?.getD 0 = 1 := by omega
      rw [h3, one_bit, decide_eq_true_iff] at hb
      subst hb
      refine ⟨_, wit_mem.2 ⟨i, 0, hi, by omega, by rw [hview, bitB_nat, h3]; rfl, rfl⟩, ?_⟩
      rw [htouch, bitG_low (by omega)]
      simp
theorem cell_low {g f : Int} {l : List MarkD} (h : g ≤ 2) (i : Nat) : cellN g l f i ≤ 1 := by
  by_cases h0 : cellN g l f i = 0
  · omega
  · have : cellN g l f i = 1 := by
      apply Nat.eq_of_testBit_eq
      intro p
      have hne := mt num_zero.2 h0
      have hne' : (l.any fun m => touchB m (f + i * sizeG g) (f + i * sizeG g + sizeG g)) = true := by simpa using hne
      obtain ⟨m, hm, ht⟩ := List.any_eq_true.1 hne'
      rw [cellN, num_bit, one_bit]
      simp only [bitG_low h, one_bit]
      rw [Bool.eq_iff_iff, List.any_eq_true, decide_eq_true_iff]
      constructor
      · rintro ⟨m', _, h'⟩
        rw [Bool.and_eq_true, decide_eq_true_iff] at h'
        exact h'.2
      · intro hp
        exact ⟨m, hm, by rw [ht, decide_eq_true hp]; rfl⟩
    omega
theorem view_possible {g f : Int} {l : List MarkD} (n : Nat) (hl : l.all markB = true) : possB ((viewN g l f n).map fun k : Nat => (k : Int)) g n = true := by
  unfold possB
  rw [List.length_map, viewN_len, decide_eq_true rfl, Bool.true_and, Bool.not_eq_true', Bool.eq_false_iff]
  intro h
  obtain ⟨x, hx, hb⟩ := List.any_eq_true.1 h
  obtain ⟨k, hk, rfl⟩ := List.mem_map.1 hx
  obtain ⟨i, _, rfl⟩ := List.mem_map.1 hk
  have h1 := cell_lt (g := g) (f := f) hl i
  rw [badX, Bool.or_eq_true, decide_eq_true_iff, decide_eq_true_iff] at hb
  unfold mostG at hb
  split at hb
  · omega
  · have := cell_low (f := f) (l := l) (show g ≤ 2 by omega) i
    omega
theorem view_wit {g f : Int} {l : List MarkD} {n : Nat} (hl : l.all markB = true) : viewN g (witL g f ((viewN g l f n).map fun k : Nat => (k : Int)) n) f n = viewN g l f n := by
  refine List.map_congr_left fun i hi => ?_
  rw [List.mem_range] at hi
  have e : (viewN g l f n)[i]?.getD 0 = cellN g l f i := by rw [viewN_at hi]; rfl
  have := wit_cell (g := g) (f := f) (v := viewN g l f n) hi (by rw [e]; exact cell_lt hl i) (fun h => by rw [e]; exact cell_low h i)
  rw [this, e]
end Go.Proofs.Ytcmcojmhlgknoaa
