/- Merged parts: UM, UW, VD. -/
import Derived.Test.YtjglidlmpjmjeaaGreatDoorUA
import Derived.Test.YtjglidlmpjmjeaaGreatDoorVR
import Derived.Test.YtjglidlmpjmjeaaGreatDoorUD
import Derived.Test.YtjglidlmpjmjeaaGreatDoorHE
import Derived.Test.YtjglidlmpjmjeaaGreatDoorKY
/- The plain law of the reference's All: selections by numbers, least ones, in order. -/
namespace Go.Proofs.YtjglidlmpjmjeaaGreatDoor
open Go.RowKit List

/-! ### bits -/
theorem bitB_test (b p : Nat) : bitB (b : Int) p = b.testBit p := by
 unfold bitB
 rw [Nat.testBit_eq_decide_div_mod_eq]
 congr 1
 rw [eq_iff_iff, show ((2 : Int) ^ p) = ((2 ^ p : Nat) : Int) by simp]
 omega
theorem peopleTo_mem {b : Int} {n : Nat} {x : Int} : x ∈ peopleTo b n ↔ ∃ k : Nat, k < n ∧ bitB b k = true ∧ x = k := by
 unfold peopleTo
 simp only [List.mem_map, List.mem_filter, List.mem_range]
 constructor
 ·rintro ⟨k, ⟨h1, h2⟩, rfl⟩; exact ⟨k, h1, h2, rfl⟩
 ·rintro ⟨k, h1, h2, rfl⟩; exact ⟨k, ⟨h1, h2⟩, rfl⟩
theorem up_same {n : Nat} {a b : List Int} (ha : a <+ upI n) (hb : b <+ upI n) (h : ∀ x, x ∈ a ↔ x ∈ b) : a = b := by
 have pa := (upI_sorted n).sublist ha
 have pb := (upI_sorted n).sublist hb
 exact (rise_sub pb pa fun x hx => (h x).1 hx).eq_of_length_le (rise_sub pa pb fun x hx => (h x).2 hx).length_le
theorem bits_inj {n b c : Nat} (hb : b < 2 ^ n) (hc : c < 2 ^ n) (h : peopleTo (b : Int) n = peopleTo (c : Int) n) : b = c := by
 apply Nat.eq_of_testBit_eq
 intro i
 by_cases hi : i < n
 ·have key : ((i : Int) ∈ peopleTo (b : Int) n) ↔ ((i : Int) ∈ peopleTo (c : Int) n) := by rw [h]
  rw [peopleTo_mem, peopleTo_mem] at key
  have e : ∀ d : Nat, (∃ k : Nat, k < n ∧ bitB (d : Int) k = true ∧ (i : Int) = k) ↔ d.testBit i = true := fun d => by
   constructor
   ·rintro ⟨k, _, h2, h3⟩
    obtain rfl : i = k := by omega
    rwa [bitB_test] at h2
   ·intro h2
    exact ⟨i, hi, by rwa [bitB_test], rfl⟩
  rw [e, e] at key
  exact Bool.eq_iff_iff.2 key
 ·have hle : 2 ^ n ≤ 2 ^ i := Nat.pow_le_pow_right (by omega) (by omega)
  rw [Nat.testBit_lt_two_pow (by omega), Nat.testBit_lt_two_pow (by omega)]
theorem sub_one {l : List Int} {x : Int} (h : l <+ [x]) : l = [] ∨ l = [x] := by
 cases h with
 | cons _ h => exact Or.inl (List.sublist_nil.1 h)
 | cons_cons _ h => exact Or.inr (by rw [List.sublist_nil.1 h])
theorem bits_of : ∀ {n : Nat} {l : List Int}, l <+ upI n → ∃ b : Nat, b < 2 ^ n ∧ peopleTo (b : Int) n = l
 | 0, l, h => by
  have : l = [] := by simpa [upI] using h
  subst this
  exact ⟨0, by simp, rfl⟩
 | n + 1, l, h => by
  rw [upI_succ] at h
  obtain ⟨l1, l2, rfl, h1, h2⟩ := List.sublist_append_iff.1 h
  obtain ⟨b, hb, e⟩ := bits_of h1
  have hp : 2 ^ (n + 1) = 2 ^ n + 2 ^ n := by rw [Nat.pow_succ]; omega
  rcases sub_one h2 with rfl | rfl
  ·refine ⟨b, by omega, ?_⟩
   rw [peopleTo_step, bitB_test, Nat.testBit_lt_two_pow hb, e]
   simp
  ·refine ⟨2 ^ n + b, by omega, ?_⟩
   rw [peopleTo_step, bitB_test, Nat.testBit_two_pow_add_eq, Nat.testBit_lt_two_pow hb]
   have e2 : peopleTo ((2 ^ n + b : Nat) : Int) n = peopleTo (b : Int) n := by
    unfold peopleTo
    congr 1
    apply List.filter_congr
    intro i hi
    rw [bitB_test, bitB_test, Nat.testBit_two_pow_add_gt (List.mem_range.1 hi)]
   rw [e2, e]
   simp
theorem bit_less {b i : Nat} (h : b.testBit i = true) (j : Nat) : (b - 2 ^ i).testBit j = (b.testBit j && decide (j ≠ i)) := by
 have hi : b / 2 ^ i % 2 = 1 := by
  rw [Nat.testBit_eq_decide_div_mod_eq] at h
  simpa using h
 have hpos : 0 < 2 ^ i := Nat.pow_pos (by omega)
 obtain ⟨q, hq⟩ : ∃ q, b / 2 ^ i = 2 * q + 1 := ⟨b / 2 ^ i / 2, by omega⟩
 obtain ⟨r, hr, hb⟩ : ∃ r, r < 2 ^ i ∧ b = 2 ^ i * (2 * q + 1) + r := ⟨b % 2 ^ i, Nat.mod_lt _ hpos, by rw [← hq, Nat.div_add_mod]⟩
 have hc : b - 2 ^ i = 2 ^ i * (2 * q) + r := by rw [hb, Nat.mul_add, Nat.mul_one]; omega
 rw [Nat.testBit_eq_decide_div_mod_eq, Nat.testBit_eq_decide_div_mod_eq]
 rcases Nat.lt_trichotomy j i with hj | hj | hj
 ·rw [decide_eq_true (show j ≠ i by omega), Bool.and_true]
  congr 2
  obtain ⟨d, rfl⟩ : ∃ d, i = j + 1 + d := ⟨i - j - 1, by omega⟩
  have e : 2 ^ (j + 1 + d) = 2 ^ j * (2 * 2 ^ d) := by rw [Nat.pow_add, Nat.pow_add]; simp [Nat.mul_assoc]
  have hj0 : 0 < 2 ^ j := Nat.pow_pos (by omega)
  have e1 : (2 ^ (j + 1 + d) * (2 * q) + r) / 2 ^ j = 2 * (2 ^ d * (2 * q)) + r / 2 ^ j := by rw [e, Nat.mul_assoc, Nat.mul_add_div hj0, Nat.mul_assoc]
  have e2 : b / 2 ^ j = 2 * (2 ^ d * (2 * q + 1)) + r / 2 ^ j := by rw [hb, e, Nat.mul_assoc, Nat.mul_add_div hj0, Nat.mul_assoc]
  rw [hc, e1, e2]
  omega
 ·subst hj
  rw [hc, Nat.mul_add_div hpos, Nat.div_eq_of_lt hr]
  simp
 ·rw [decide_eq_true (show j ≠ i by omega), Bool.and_true]
  congr 2
  obtain ⟨d, rfl⟩ : ∃ d, j = i + 1 + d := ⟨j - i - 1, by omega⟩
  rw [Nat.pow_add, Nat.pow_add, Nat.pow_one, ← Nat.div_div_eq_div_mul, ← Nat.div_div_eq_div_mul, ← Nat.div_div_eq_div_mul, ← Nat.div_div_eq_div_mul, hc, hb, Nat.mul_add_div hpos, Nat.mul_add_div hpos, Nat.div_eq_of_lt hr, show (2 * q + 0) / 2 = (2 * q + 1 + 0) / 2 by omega]

/-! ### the least ones -/
def leastN' (t : List WishD) (b : Nat) : Bool := !selSt t (peopleTo (b : Int) t.length) && (List.range t.length).all fun i => !bitB (b : Int) i || selSt t (peopleTo ((b - 2 ^ i : Nat) : Int) t.length)
theorem erase_bits {n b k : Nat} (hk : k < (peopleTo (b : Int) n).length) : ∃ i, i < n ∧ b.testBit i = true ∧ (peopleTo (b : Int) n)[k] = (i : Int) ∧ (peopleTo (b : Int) n).eraseIdx k = peopleTo ((b - 2 ^ i : Nat) : Int) n := by
 obtain ⟨i, h1, h2, h3⟩ := peopleTo_mem.1 (List.getElem_mem hk)
 rw [bitB_test] at h2
 refine ⟨i, h1, h2, h3, up_same ((List.eraseIdx_sublist _ _).trans (peopleTo_sub _ _)) (peopleTo_sub _ _) fun x => ?_⟩
 have hs := (upI_sorted n).sublist (peopleTo_sub (b : Int) n)
 rw [List.mem_eraseIdx_iff_getElem, peopleTo_mem]
 constructor
 ·rintro ⟨j, hj, hne, rfl⟩
  obtain ⟨m, m1, m2, m3⟩ := peopleTo_mem.1 (List.getElem_mem hj)
  refine ⟨m, m1, ?_, m3⟩
  rw [bitB_test] at m2 ⊢
  rw [bit_less h2, m2, Bool.true_and, decide_eq_true_eq]
  intro e
  rw [List.pairwise_iff_getElem] at hs
  rcases Nat.lt_or_gt_of_ne hne with h | h
  ·have := hs j k hj hk h; omega
  ·have := hs k j hk hj h; omega
 ·rintro ⟨m, m1, m2, rfl⟩
  rw [bitB_test, bit_less h2, Bool.and_eq_true, decide_eq_true_eq] at m2
  obtain ⟨j, hj, e⟩ := List.mem_iff_getElem.1 (peopleTo_mem.2 ⟨m, m1, by rw [bitB_test]; exact m2.1, rfl⟩ : (m : Int) ∈ peopleTo (b : Int) n)
  refine ⟨j, hj, ?_, e⟩
  rintro rfl
  rw [e] at h3
  omega
theorem least_core {t : List WishD} {b : Nat} : leastN' t b = coreB t (peopleTo (b : Int) t.length) := by
 rw [Bool.eq_iff_iff, coreB_iff]
 unfold leastN' CoreP
 rw [Bool.and_eq_true, Bool.not_eq_true', List.all_eq_true]
 refine and_congr_right fun _ => ⟨fun h k hk => ?_, fun h i hi => ?_⟩
 ·obtain ⟨i, h1, h2, _, h4⟩ := erase_bits hk
  have := h i (List.mem_range.2 h1)
  rw [bitB_test, h2, Bool.not_true, Bool.false_or] at this
  rw [h4]
  exact this
 ·cases hb : bitB (b : Int) i with
  | false => rfl
  | true =>
   obtain ⟨k, hk, e⟩ := List.mem_iff_getElem.1 (peopleTo_mem.2 ⟨i, List.mem_range.1 hi, hb, rfl⟩ : (i : Int) ∈ peopleTo (b : Int) t.length)
   obtain ⟨j, _, _, h3, h4⟩ := erase_bits hk
   obtain rfl : i = j := by omega
   rw [Bool.not_true, Bool.false_or, ← h4]
   exact h k hk

/-! ### their order -/
theorem LexB.trans : ∀ {a b c : List Int}, LexB a b → LexB b c → LexB a c
 | [], b, c, h, _ => by cases b <;> simp [LexB] at h
 | x :: a, [], c, h, _ => by simp [LexB] at h
 | x :: a, y :: b, [], _, h => by simp [LexB] at h
 | x :: a, y :: b, z :: c, h1, h2 => by
  simp only [LexB] at h1 h2 ⊢
  rcases h1 with h1 | ⟨h1, h1'⟩ <;> rcases h2 with h2 | ⟨h2, h2'⟩
  ·exact Or.inl (by omega)
  ·exact Or.inl (by omega)
  ·exact Or.inl (by omega)
  ·exact Or.inr ⟨by omega, h1'.trans h2'⟩
theorem selLt.trans {a b c : List Int} (h1 : selLt a b) (h2 : selLt b c) : selLt a c := by
 rcases h1 with h1 | ⟨h1, h1'⟩ <;> rcases h2 with h2 | ⟨h2, h2'⟩
 ·exact Or.inl (by omega)
 ·exact Or.inl (by omega)
 ·exact Or.inl (by omega)
 ·exact Or.inr ⟨by omega, h1'.trans h2'⟩
def lexD : List Int → List Int → Bool
 | x :: a, y :: b => decide (x < y) || (decide (x = y) && lexD a b)
 | _, _ => false
theorem lexD_iff : ∀ {a b : List Int}, lexD a b = true ↔ LexB a b
 | [], b => by cases b <;> simp [lexD, LexB]
 | x :: a, [] => by simp [lexD, LexB]
 | x :: a, y :: b => by simp [lexD, LexB, lexD_iff (a := a) (b := b)]
def lessD (a b : List Int) : Bool := if a.length ≠ b.length then decide (a.length < b.length) else lexD a b
theorem lessD_iff {a b : List Int} : lessD a b = true ↔ selLt a b := by
 unfold lessD selLt
 split
 ·rename_i h
  simp only [decide_eq_true_eq]
  exact ⟨Or.inl, fun h' => h'.elim id fun h' => absurd h'.1 h⟩
 ·rename_i h
  rw [lexD_iff]
  exact ⟨fun h' => Or.inr ⟨by omega, h'⟩, fun h' => h'.elim (fun h' => absurd (Nat.ne_of_lt h') h) (·.2)⟩
theorem lex_total : ∀ {a b : List Int}, a.length = b.length → a = b ∨ LexB a b ∨ LexB b a
 | [], [], _ => Or.inl rfl
 | [], _ :: _, h => by simp at h
 | _ :: _, [], h => by simp at h
 | x :: a, y :: b, h => by
  simp only [LexB]
  rcases Int.lt_trichotomy x y with h1 | h1 | h1
  ·exact Or.inr (Or.inl (Or.inl h1))
  ·subst h1
   rcases lex_total (a := a) (b := b) (by simpa using h) with h2 | h2 | h2
   ·exact Or.inl (by rw [h2])
   ·exact Or.inr (Or.inl (Or.inr ⟨rfl, h2⟩))
   ·exact Or.inr (Or.inr (Or.inr ⟨rfl, h2⟩))
  ·exact Or.inr (Or.inr (Or.inl h1))
theorem sel_total (a b : List Int) : a = b ∨ selLt a b ∨ selLt b a := by
 unfold selLt
 rcases Nat.lt_trichotomy a.length b.length with h | h | h
 ·exact Or.inr (Or.inl (Or.inl h))
 ·rcases lex_total h with h2 | h2 | h2
  ·exact Or.inl h2
  ·exact Or.inr (Or.inl (Or.inr ⟨h, h2⟩))
  ·exact Or.inr (Or.inr (Or.inr ⟨h.symm, h2⟩))
 ·exact Or.inr (Or.inr (Or.inl h))
theorem sorted_same : ∀ {a b : List (List Int)}, a.Pairwise selLt → b.Pairwise selLt → (∀ x, x ∈ a ↔ x ∈ b) → a = b
 | [], [], _, _, _ => rfl
 | [], y :: b, _, _, h => by have := (h y).2 List.mem_cons_self; cases this
 | x :: a, [], _, _, h => by have := (h x).1 List.mem_cons_self; cases this
 | x :: a, y :: b, ha, hb, h => by
  rw [List.pairwise_cons] at ha hb
  have e : x = y := by
   rcases List.mem_cons.1 ((h x).1 List.mem_cons_self) with e | hx
   ·exact e
   ·rcases List.mem_cons.1 ((h y).2 List.mem_cons_self) with e | hy
    ·exact e.symm
    ·exact absurd ((ha.1 y hy).trans (hb.1 x hx)) (selLt.irrefl _)
  subst e
  rw [sorted_same ha.2 hb.2 fun z => ?_]
  constructor
  ·intro hz
   rcases List.mem_cons.1 ((h z).1 (List.mem_cons_of_mem _ hz)) with rfl | hz'
   ·exact absurd (ha.1 _ hz) (selLt.irrefl _)
   ·exact hz'
  ·intro hz
   rcases List.mem_cons.1 ((h z).2 (List.mem_cons_of_mem _ hz)) with rfl | hz'
   ·exact absurd (hb.1 _ hz) (selLt.irrefl _)
   ·exact hz'
def BelowB (t : List WishD) (b : Nat) (out : List (List Int)) : Prop := out.Pairwise selLt ∧ ∀ l, l ∈ out ↔ ∃ c, c < b ∧ leastN' t c = true ∧ l = peopleTo (c : Int) t.length
theorem BelowB.zero (t : List WishD) : BelowB t 0 [] := ⟨List.Pairwise.nil, fun l => ⟨fun h => (by cases h), fun ⟨c, h, _⟩ => (by omega)⟩⟩
theorem BelowB.skip {t : List WishD} {b : Nat} {out : List (List Int)} (h : BelowB t b out) (hb : leastN' t b = false) : BelowB t (b + 1) out := by
 refine ⟨h.1, fun l => (h.2 l).trans ⟨?_, ?_⟩⟩
 ·rintro ⟨c, h1, h2, h3⟩; exact ⟨c, by omega, h2, h3⟩
 ·rintro ⟨c, h1, h2, h3⟩
  refine ⟨c, ?_, h2, h3⟩
  by_cases e : c = b
  ·subst e; rw [hb] at h2; cases h2
  ·omega
theorem BelowB.put {t : List WishD} {b : Nat} {p s : List (List Int)} (h : BelowB t b (p ++ s)) (hbn : b < 2 ^ t.length) (hb : leastN' t b = true) (hs : ∀ y ∈ s, selLt (peopleTo (b : Int) t.length) y)
  (hp : ∀ y, p.getLast? = some y → ¬ selLt (peopleTo (b : Int) t.length) y) : BelowB t (b + 1) (p ++ peopleTo (b : Int) t.length :: s) := by
 obtain ⟨h1, h2⟩ := h
 have hx : ∀ y ∈ p ++ s, y ≠ peopleTo (b : Int) t.length := fun y hy e => by
  obtain ⟨c, h3, _, h5⟩ := (h2 y).1 hy
  have := bits_inj (n := t.length) (by omega) hbn (h5.symm.trans e)
  omega
 rw [List.pairwise_append] at h1
 have hp' : ∀ y ∈ p, selLt y (peopleTo (b : Int) t.length) := by
  intro y hy
  have hne : p ≠ [] := by intro e; rw [e] at hy; cases hy
  have hl : p.getLast? = some (p.getLast hne) := List.getLast?_eq_some_getLast hne
  have hlast : selLt (p.getLast hne) (peopleTo (b : Int) t.length) := by
   rcases sel_total (p.getLast hne) (peopleTo (b : Int) t.length) with e | e | e
   ·exact absurd e (hx _ (List.mem_append_left _ (List.getLast_mem hne)))
   ·exact e
   ·exact absurd e (hp _ hl)
  rw [← List.dropLast_concat_getLast hne] at hy h1
  rcases List.mem_append.1 hy with hy | hy
  ·exact ((List.pairwise_append.1 h1.1).2.2 y hy _ (List.mem_singleton.2 rfl)).trans hlast
  ·rw [List.mem_singleton.1 hy]; exact hlast
 refine ⟨?_, fun l => ?_⟩
 ·rw [List.pairwise_append]
  refine ⟨h1.1, List.pairwise_cons.2 ⟨hs, h1.2.1⟩, fun a ha c hc => ?_⟩
  rcases List.mem_cons.1 hc with rfl | hc
  ·exact hp' a ha
  ·exact h1.2.2 a ha c hc
 ·rw [List.mem_append, List.mem_cons]
  constructor
  ·rintro (h | rfl | h)
   ·obtain ⟨c, h3, h4⟩ := (h2 l).1 (List.mem_append_left _ h); exact ⟨c, by omega, h4⟩
   ·exact ⟨b, by omega, hb, rfl⟩
   ·obtain ⟨c, h3, h4⟩ := (h2 l).1 (List.mem_append_right _ h); exact ⟨c, by omega, h4⟩
  ·rintro ⟨c, h3, h4, h5⟩
   by_cases e : c = b
   ·subst e; exact Or.inr (Or.inl h5)
   ·rcases List.mem_append.1 ((h2 l).2 ⟨c, by omega, h4, h5⟩) with h | h
    ·exact Or.inl h
    ·exact Or.inr (Or.inr h)
theorem BelowB.all {t : List WishD} {out : List (List Int)} (h : BelowB t (2 ^ t.length) out) : out = allC t := by
 refine sorted_same h.1 ((sels_sorted t.length).filter _) fun l => (h.2 l).trans ?_
 rw [mem_allC, ← coreB_iff]
 constructor
 ·rintro ⟨c, _, h2, rfl⟩
  exact ⟨peopleTo_sub _ _, by rw [← least_core]; exact h2⟩
 ·rintro ⟨h1, h2⟩
  obtain ⟨c, h3, rfl⟩ := bits_of h1
  exact ⟨c, h3, by rw [least_core]; exact h2, rfl⟩
end Go.Proofs.YtjglidlmpjmjeaaGreatDoor

/- Walks of the reference of cores: chosen, less. -/
namespace Go.Proofs.YtjglidlmpjmjeaaGreatDoor
open Go.RowKit List

set_option maxHeartbeats 1600000 in
set_option maxRecDepth 100000 in
theorem chosen_calls (n : Int) (N : Nat) (w : World) (hn0 : 0 ≤ n) (hN : N ≤ 12) :
  Calls Tryz.prog 39 #[.int .i64 n, .int .i64 N] w fun e w' => ∃ v, e = .returned v ∧ IntsO w' w.heap.size v (peopleTo n N) ∧ Ext w w' := by
 obtain ⟨j0, hj0, jz0, jz1, jz2⟩ := info_parts int_info
 have hnn := Lib.hid hn0
 go_enter Tryz.func39, Tryz.ntmps39
 go_wp2_with fail
 refine wp_abs (S := fun W => Hid (Ext w W) ∧ Hid (IntsO W w.heap.size (.slice (some ⟨w.heap.size, 0, none⟩) 0 0) [])) ?_ ?_
 ·exact ⟨Lib.hid (by exact (by with_reducible repeat' (first | exact Ext.refl _ | assumption | refine Ext.drewN ?_ _ | refine Ext.drew ?_ | refine Ext.alloc ?_ _ | refine Ext.trans ?_ (by with_reducible assumption)))), Lib.hid (World.ownsRow_made (base := w.heap.size) (e := 3) (size := 1) w #[] 0 (Nat.le_refl _) (by unfold maxLen; omega) rfl)⟩
 rintro W1 ⟨hx1, ho1⟩
 go_loopw [5, 6] (fun vo vi wr => ∃ (i : Nat), i ≤ N ∧ vi = .int .i64 i ∧ Hid (Ext w wr) ∧ Hid (IntsO wr w.heap.size vo (peopleTo n i))) (fun _ vi _ => N - (intOf vi).toNat)
 case atStart => exact ⟨0, by omega, rfl, hx1, ho1⟩
 case round =>
  clear hx1 ho1
  obtain ⟨i, hi, rfl, hxw, hO⟩ := hrel
  have hlen := peopleTo_len n i
  by_cases h1 : i < N
  ·cases hb : bitB n i with
   | false =>
    have htest := (bit_walk hnn.out i).trans hb
    have hN : Hid (IntsO wr w.heap.size _ (peopleTo n (i + 1))) := Lib.hid (by rw [peopleTo_step, hb]; exact hO.out)
    clear hb hO
    go_wp2_with fail
    go_roundw
    case rel => exact ⟨i + 1, by omega, by go_num, hxw, hN⟩
    case measure => simp [intOf]; omega
   | true =>
    have htest := (bit_walk hnn.out i).trans hb
    have hrow := hO.out
    unfold IntsO at hrow
    obtain ⟨m, hm⟩ : ∃ m, Hid ((peopleTo n i).length = m) := ⟨_, rfl⟩
    rw [hm.out] at hrow hlen
    obtain ⟨A, C, rfl⟩ := owns_form hrow
    have hrow' := Lib.hid hrow
    have hb' := Lib.hid hb
    have lw := hxw.out.size
    clear hb hrow
    go_wp2_with (at_builtin; refine wpList_append_any _ rfl (.tmp 18) (.tmp 20) _ rfl w.heap.size 3 j0 _ 1 8 Tryz.underlying23 hj0 jz0 jz1 jz2 rfl (by decide) (.slice A m C) m _ rfl (hrow'.out.alloc _) (wr.heap.size + 1) (some ⟨wr.heap.size, 0, none⟩) 1 1 [.int .i64 (i : Int)] rfl (reads_last _ #[_] _ 1 1 _ _ (by simp) (by omega) rfl) (one_int _) (by unfold maxLen; omega) (by omega) (by rw [World.size_alloc]; omega) ?_; intro v1 w1 hown1 hg1 hat1; have hN : Hid (IntsO w1 w.heap.size v1 (peopleTo n (i + 1))) := Lib.hid (by rw [peopleTo_step, hb'.out]; exact IntsO.push hO.out hm.out.symm hown1); have hE := Lib.hid (Ext.push hxw.out hrow'.out _ hg1); clear hg1 hat1 hown1)
    go_roundw
    case rel => exact ⟨i + 1, by omega, by go_num, hE, hN⟩
    case measure => simp [intOf]; omega
  ·obtain rfl : i = N := by omega
   go_wp2
   go_ret
   exact ⟨_, rfl, hO.out, hxw.out⟩

theorem lexD_drop {a b : List Int} {i : Nat} {x y : Int} (hx : a[i]? = some x) (hy : b[i]? = some y) : lexD (a.drop i) (b.drop i) = (decide (x < y) || (decide (x = y) && lexD (a.drop (i + 1)) (b.drop (i + 1)))) := by
 obtain ⟨h1, rfl⟩ := List.getElem?_eq_some_iff.1 hx
 obtain ⟨h2, rfl⟩ := List.getElem?_eq_some_iff.1 hy
 rw [List.drop_eq_getElem_cons h1, List.drop_eq_getElem_cons h2, lexD]
set_option maxHeartbeats 800000 in
theorem less_calls (va vb : Value) (a b : List Int) (w : World) (ha : Ints w va a) (hb : Ints w vb b) :
  Calls Tryz.prog 40 #[va, vb] w fun e w' => e = .returned (.bool (lessD a b)) ∧ Ext w w' := by
 obtain ⟨aa, ac, rfl, han, hac, aat⟩ := ha.open
 obtain ⟨ba, bc, rfl, hbn, hbc, bat⟩ := hb.open
 have aat' := Lib.hid aat
 have bat' := Lib.hid bat
 obtain ⟨R, hR⟩ : ∃ R, Hid (lessD a b = R) := ⟨_, rfl⟩
 rw [hR.out]
 clear ha hb aat bat
 by_cases hl : a.length = b.length
 ·have d0 : ((a.length : Int) != b.length) = false := by simp [hl]
  have l1 : a.length ≤ b.length := Nat.le_of_eq hl
  have l2 : b.length ≤ a.length := Nat.le_of_eq hl.symm
  have hR0 : Hid (R = lexD (a.drop 0) (b.drop 0)) := Lib.hid (by rw [← hR.out]; unfold lessD; rw [if_neg (by simp [hl])]; rfl)
  clear hl hR
  go_enter Tryz.func40, Tryz.ntmps40
  go_wp2_with fail
  go_loopw [5] (fun vi wr => ∃ i : Nat, i ≤ a.length ∧ vi = .int .i64 i ∧ Hid (Ext w wr) ∧ Hid (R = lexD (a.drop i) (b.drop i))) (fun vi _ => a.length - (intOf vi).toNat)
  case atStart => exact ⟨0, by omega, rfl, Lib.hid (Ext.refl _), hR0⟩
  case round =>
   clear hR0
   obtain ⟨i, hi, rfl, hx, hF⟩ := hrel
   by_cases h1 : i < a.length
   ·obtain ⟨b1, o1, x, rfl, hb1, _, ex, g0⟩ := aat'.out i h1 wr hx.out
    obtain ⟨b2, o2, y, rfl, hb2, _, ey, g1⟩ := bat'.out i (by omega) wr hx.out
    have hstep := Lib.hid (lexD_drop ex.out ey.out)
    clear ex ey
    by_cases hxy : x = y
    ·have d1 : (x != y) = false := by simp [hxy]
     have R2 : Hid (R = lexD (a.drop (i + 1)) (b.drop (i + 1))) := Lib.hid (by rw [hF.out, hstep.out, decide_eq_false (show ¬ x < y by omega), decide_eq_true hxy]; simp)
     clear hxy hstep hF
     go_upto_region 6 with (fail)
     have z1 := After.cell g0
     have z2 := After.cell g1
     refine wp_region_after (by kernel_rfl) (by kernel_rfl) ?_
     repeat (go_big_quiet_step (fail))
     refine wpQuiet_nil ?_
     rintro _ ⟨u, rfl⟩
     replace g0 := u.ext.cell g0
     replace g1 := u.ext.cell g1
     have hu := Lib.hid (hx.out.trans u.ext)
     generalize u.world = W at hu g0 g1 ⊢
     clear z1 z2
     clear g0 g1
     go_wp2
     go_roundw
     case rel => exact ⟨i + 1, by omega, by go_num, hu, R2⟩
     case measure => simp [intOf]; omega
    ·have d1 : (x != y) = true := by simp [hxy]
     have R2 : Hid (decide (x < y) = R) := Lib.hid (by rw [hF.out, hstep.out, decide_eq_false hxy]; simp)
     clear hxy hstep hF
     go_upto_region 6 with (fail)
     have z1 := After.cell g0
     have z2 := After.cell g1
     refine wp_region_after (by kernel_rfl) (by kernel_rfl) ?_
     repeat (go_big_quiet_step (fail))
     refine wpQuiet_nil ?_
     rintro _ ⟨u, rfl⟩
     replace g0 := u.ext.cell g0
     replace g1 := u.ext.cell g1
     have hu := Lib.hid (hx.out.trans u.ext)
     generalize u.world = W at hu g0 g1 ⊢
     clear z1 z2
     go_upto_region 7 with (fail)
     have z1 := After.cell g0
     have z2 := After.cell g1
     clear g0 g1
     refine wp_region_after (by kernel_rfl) (by kernel_rfl) ?_
     repeat (go_big_quiet_step (fail))
     refine wpQuiet_nil ?_
     rintro _ ⟨u, rfl⟩
     have hu2 := Lib.hid (hu.out.trans u.ext)
     generalize u.world = W2 at hu2 ⊢
     clear z1 z2
     go_wp2
     go_ret
     rw [R2.out]
     exact ⟨rfl, hu2.out⟩
   ·have R2 : Hid (R = false) := Lib.hid (by rw [hF.out, List.drop_of_length_le (show a.length ≤ i by omega)]; rfl)
    clear hF
    go_wp2
    go_ret
    rw [R2.out]
    exact ⟨rfl, hx.out⟩
 ·have d0 : ((a.length : Int) != b.length) = true := by
   rw [bne_iff_ne]; omega
  have R2 : Hid (decide (a.length < b.length) = R) := Lib.hid (by rw [← hR.out]; unfold lessD; rw [if_pos hl])
  have e2 : decide ((a.length : Int) < (b.length : Int)) = decide (a.length < b.length) := by simp
  clear hR
  go_enter Tryz.func40, Tryz.ntmps40
  go_wp2
  go_ret
  first
  | (rw [R2.out]; exact ⟨rfl, (by with_reducible repeat' (first | exact Ext.refl _ | assumption | refine Ext.drewN ?_ _ | refine Ext.drew ?_ | refine Ext.alloc ?_ _ | refine Ext.trans ?_ (by with_reducible assumption)))⟩)
  | (rw [e2, R2.out]; exact ⟨rfl, (by with_reducible repeat' (first | exact Ext.refl _ | assumption | refine Ext.drewN ?_ _ | refine Ext.drew ?_ | refine Ext.alloc ?_ _ | refine Ext.trans ?_ (by with_reducible assumption)))⟩)
end Go.Proofs.YtjglidlmpjmjeaaGreatDoor

/- Walk of the reference of cores: All. -/
namespace Go.Proofs.YtjglidlmpjmjeaaGreatDoor
open Go.RowKit List
attribute [local go_sem] Oper.semAt_some

theorem bool_info : (Tryz.prog.info? 4).map (fun i => (i.zero, i.size, i.bytes)) = some (some (.bool false), 1, 1) := by kernel_rfl
theorem rowsI_info : (Tryz.prog.info? 23).map (fun i => (i.zero, i.size, i.bytes)) = some (some (.slice none 0 0), 1, 24) := by kernel_rfl
def falses (n : Nat) : List Bool := List.replicate n false
theorem made_bools (n : Nat) : madeCells (Value.bool false).cells n = ((falses n).map Value.bool).toArray := by
 apply Array.ext_getElem?
 intro k
 by_cases h : k < n
 ·simp [madeCells, falses, h, Value.cells, Nat.mod_one]
 ·simp [madeCells, falses, h]
theorem run_make_bools (n : Nat) (hn : n ≤ 1000000) (w : World) :
  (Instr.makeSlice 69 (.int .i64 (n : Int)) (.int .i64 (n : Int))).run Tryz.prog w = .ok (.slice (some ⟨w.heap.size, 0, none⟩) n n) (w.alloc (.cells ((falses n).map Value.bool).toArray 4)) := by
 obtain ⟨i0, hi, hz, hs, hb⟩ := info_parts bool_info
 have := run_make_any (P := Tryz.prog) 69 4 i0 _ Tryz.underlying69 hi hz .i64 .i64 n n (Nat.le_refl _) (by rw [hb]; omega) (by omega) w
 rw [this, hs, Nat.mul_one, made_bools]

def GoodS (W : World) (g : Nat) (t : List WishD) (b P : Nat) : Prop :=
 ∃ gl : List Bool, gl.length = P ∧ Blk W g 4 (gl.map Value.bool).toArray ∧ ∀ c, c < b → gl[c]? = some (selSt t (peopleTo (c : Int) t.length))
theorem GoodS.blk {W W' : World} {g : Nat} {t : List WishD} {b P : Nat} (h : GoodS W g t b P) (k : ∀ cs, Blk W g 4 cs → Blk W' g 4 cs) : GoodS W' g t b P :=
 let ⟨gl, h1, h2, h3⟩ := h
 ⟨gl, h1, k _ h2, h3⟩
theorem GoodS.ext {W W' : World} {g : Nat} {t : List WishD} {b P : Nat} (h : GoodS W g t b P) (e : Ext W W') : GoodS W' g t b P := h.blk fun _ hb => (Keep.of_ext (X := fun _ => False) e).blk hb id
theorem GoodS.set_ {W : World} {g : Nat} {t : List WishD} {b P : Nat} (h : GoodS W g t b P) (hb : b < P) (q : Bool) (hq : selSt t (peopleTo (b : Int) t.length) = q) : GoodS (W.setCell ⟨g, b, none⟩ (.bool q)) g t (b + 1) P := by
 obtain ⟨gl, h1, h2, h3⟩ := h
 refine ⟨gl.set b q, by simp [h1], ?_, fun c hc => ?_⟩
 ·have := h2.set_ b (.bool q)
  simpa [List.map_set] using this
 ·by_cases e : c = b
  ·subst e
   rw [List.getElem?_set_self (by omega), hq]
  ·rw [List.getElem?_set_ne (by omega)]
   exact h3 c (by omega)
theorem GoodS.cell {W : World} {g : Nat} {t : List WishD} {b P c : Nat} (h : GoodS W g t b P) (hc : c < b) : W.cell? ⟨g, c, none⟩ = some (.bool (selSt t (peopleTo (c : Int) t.length))) := by
 obtain ⟨gl, h1, h2, h3⟩ := h
 rw [h2.cell]
 simp [h3 c hc]
theorem GoodS.has {W : World} {g : Nat} {t : List WishD} {b P c : Nat} (h : GoodS W g t b P) (hc : c < P) : ∃ v, W.cell? ⟨g, c, none⟩ = some v := by
 obtain ⟨gl, h1, h2, h3⟩ := h
 rw [h2.cell]
 exact ⟨_, by simp [show c < gl.length by omega]; rfl⟩
theorem GoodS.lt {W : World} {g : Nat} {t : List WishD} {b P : Nat} (h : GoodS W g t b P) : g < W.heap.size := let ⟨_, _, h2, _⟩ := h; h2.lt
theorem GoodS.frozen {W : World} {g : Nat} {t : List WishD} {b P : Nat} (h : GoodS W g t b P) (i : Nat) : W.frozen? ⟨g, i, none⟩ = false := let ⟨_, _, h2, _⟩ := h; h2.frozen i

theorem KeptS.swap {W : World} {xs : List Value} {L : List (List Int)} {i j : Nat} {a b : Value} {x y : List Int} (h : KeptS W xs L) (ha : xs[i]? = some a) (hb : xs[j]? = some b) (hx : L[i]? = some x) (hy : L[j]? = some y) :
  KeptS W ((xs.set i b).set j a) ((L.set i y).set j x) := by
 obtain ⟨v1, B1, e1, o1⟩ := h.2 i x hx
 obtain ⟨v2, B2, e2, o2⟩ := h.2 j y hy
 obtain rfl : a = v1 := Option.some.inj (ha.symm.trans e1)
 obtain rfl : b = v2 := Option.some.inj (hb.symm.trans e2)
 have li := (List.getElem?_eq_some_iff.1 ha).1
 have lj := (List.getElem?_eq_some_iff.1 hb).1
 have hl := h.1
 refine ⟨by simp [hl], fun k st hk => ?_⟩
 by_cases ej : k = j
 ·subst ej
  rw [List.getElem?_set_self (by simp; omega)] at hk ⊢
  cases hk
  exact ⟨_, _, rfl, o1⟩
 ·rw [List.getElem?_set_ne (by omega)] at hk ⊢
  by_cases ei : k = i
  ·subst ei
   rw [List.getElem?_set_self (by omega)] at hk ⊢
   cases hk
   exact ⟨_, _, rfl, o2⟩
  ·rw [List.getElem?_set_ne (by omega)] at hk ⊢
   exact h.2 k st hk
def OutS (W : World) (B : Nat) (v : Value) (L : List (List Int)) : Prop := ∃ xs, W.ownsRow B 23 1 v L.length xs ∧ KeptS W xs L
theorem OutS.kt {W W' : World} {B : Nat} {v : Value} {L : List (List Int)} (h : OutS W B v L) (k : KB W W') : OutS W' B v L := let ⟨xs, h1, h2⟩ := h; ⟨xs, k.owns h1, h2.kt k.kt⟩
theorem OutS.ext {W W' : World} {B : Nat} {v : Value} {L : List (List Int)} (h : OutS W B v L) (e : Ext W W') : OutS W' B v L := h.kt (KB.of_ext e)
theorem OutS.at_ {W : World} {B n c k : Nat} {A : Option Addr} {L : List (List Int)} {x : List Int} (h : OutS W B (.slice A n c) L) (hx : L[k]? = some x) :
  n = L.length ∧ ∃ g a m, A = some ⟨g, 0, none⟩ ∧ g < W.heap.size ∧ B ≤ g ∧ (∃ cs, Blk W g 23 cs) ∧ W.cell? ⟨g, k, none⟩ = some (.slice a x.length m) ∧ Ints W (.slice a x.length m) x ∧ W.frozen? ⟨g, k, none⟩ = false := by
 obtain ⟨xs, h1, h2⟩ := h
 have hk := (List.getElem?_eq_some_iff.1 hx).1
 rcases h1.2 with ⟨_, h0⟩ | ⟨g, cap, cur, e, hb, hg, hcap, hm, hcs, htake⟩
 ·omega
 ·cases e
  refine ⟨rfl, ?_⟩
  obtain ⟨v, B', e1, e2⟩ := h2.2 k x hx
  obtain ⟨a, m, rfl⟩ := owns_form e2
  have hblk : Blk W g 23 cur := hg
  refine ⟨g, a, m, rfl, hblk.lt, hb, ⟨cur, hblk⟩, ?_, e2.read, hblk.frozen k⟩
  rw [hblk.cell]
  have hlt : k < xs.length := (List.getElem?_eq_some_iff.1 e1).1
  rw [← htake, List.getElem?_take] at e1
  split at e1
  ·simpa using e1
  ·cases e1
theorem OutS.swap {W : World} {B n c i j g : Nat} {L : List (List Int)} {x y : List Int} {va vb : Value} (h : OutS W B (.slice (some ⟨g, 0, none⟩) n c) L) (hx : L[i]? = some x) (hy : L[j]? = some y) (ha : W.cell? ⟨g, i, none⟩ = some va) (hb : W.cell? ⟨g, j, none⟩ = some vb) :
  OutS ((W.setCell ⟨g, i, none⟩ vb).setCell ⟨g, j, none⟩ va) B (.slice (some ⟨g, 0, none⟩) n c) ((L.set i y).set j x) := by
 obtain ⟨xs, h1, h2⟩ := h
 have hj1 := (List.getElem?_eq_some_iff.1 hx).1
 have hj0 := (List.getElem?_eq_some_iff.1 hy).1
 have hn : n = L.length := by
  rcases h1.2 with ⟨_, h0⟩ | ⟨g', cap, cur, e, hb, hg, hcap, hm, hcs, htake⟩
  ·omega
  ·cases e; rfl
 subst hn
 have hl : xs.length = L.length := h2.1
 have key : ∀ k u, k < L.length → W.cell? ⟨g, k, none⟩ = some u → xs[k]? = some u := fun k u hk hu => by
  rcases h1.2 with ⟨_, h0⟩ | ⟨g', cap, cur, e, hb, hg, hcap, hm, hcs, htake⟩
  ·omega
  ·cases e
   have hblk : Blk W g 23 cur := hg
   rw [hblk.cell] at hu
   rw [← htake, List.getElem?_take, if_pos (by omega)]
   simpa using hu
 have a1 := key _ _ hj1 ha
 have b1 := key _ _ hj0 hb
 have s1 := (World.ownsRow.stored h1 i vb).1
 have s2 := (s1.stored j va).1
 have hgb : ∃ cs, Blk W g 23 cs := owns_block h1 rfl
 have k0 : Keep (fun k => k = g) W ((W.setCell ⟨g, i, none⟩ vb).setCell ⟨g, j, none⟩ va) := (keep_set W g i vb).setCell (Or.inl rfl) _
 refine ⟨(xs.set i vb).set j va, by simpa using s2, ?_⟩
 have h3 := h2.keepX k0 (fun i cs hi hc => by
  subst hi
  obtain ⟨cs', hc'⟩ := hgb
  have := blk_type hc hc'
  revert this; decide)
 exact h3.swap a1 b1 hx hy
theorem OutS.read {W : World} {B : Nat} {v : Value} {L : List (List Int)} (h : OutS W B v L) : RowsI W v L := let ⟨_, h1, h2⟩ := h; h2.read h1
theorem swap_list {p s : List (List Int)} {x y : List Int} {j : Nat} (hj : p.length = j) : (((p ++ [y]) ++ x :: s).set (j + 1) y).set j x = p ++ x :: (y :: s) := by
 subst hj
 simp
theorem allsets_shl {n : Nat} (h : n ≤ 12) : wrap64 (2 ^ n) = ((2 ^ n : Nat) : Int) := by
 have e : (2 : Int) ^ n = ((2 ^ n : Nat) : Int) := by simp
 have hp : 2 ^ n ≤ 2 ^ 12 := Nat.pow_le_pow_right (by decide) h
 rw [e]
 generalize 2 ^ n = m at hp ⊢
 unfold wrap64
 omega
theorem bit_walk0 {n : Int} (h : 0 ≤ n) (p : Nat) : ((n / 2 ^ p).tmod 2 == 0) = !bitB n p := by
 have h1 : 0 ≤ n / 2 ^ p := Int.ediv_nonneg h (by exact Int.le_of_lt (Int.pow_pos (by omega)))
 rw [Int.tmod_eq_emod_of_nonneg h1, bitB]
 rw [Bool.eq_iff_iff]
 simp
 omega
def leastTo (t : List WishD) (b i : Nat) : Bool := !selSt t (peopleTo (b : Int) t.length) && (List.range i).all fun i => !bitB (b : Int) i || selSt t (peopleTo ((b - 2 ^ i : Nat) : Int) t.length)
theorem leastTo_step (t : List WishD) (b i : Nat) : leastTo t b (i + 1) = (leastTo t b i && (!bitB (b : Int) i || selSt t (peopleTo ((b - 2 ^ i : Nat) : Int) t.length))) := by
 unfold leastTo
 rw [List.range_succ, List.all_append]
 simp [Bool.and_assoc]
def AllCon (M : List Int) (q : Bool) (k : Nat) (v : Value) (W : World) : Prop := (k = 3 → Ints W v M) ∧ (k = 4 → v = .tuple #[.bool q, .int .i64 0])
set_option maxHeartbeats 12800000 in
set_option maxRecDepth 100000 in
theorem rAll_calls (wv : Value) (t : List WishD) (w : World) (h : Wishes w wv t) (hs : SmallT t) (hv0 : validT t = 0) :
  Calls Tryz.prog 11 #[.agg #[wv]] w fun e w' => ∃ v, e = .returned (.tuple #[v, .int .i64 0]) ∧ RowsI w' v (allC t) ∧ Ext w w' := by
 have hT := Lib.hid h
 obtain ⟨ta, tc, rfl⟩ := h.form
 have hlen := hs.len
 have hv : Hid (∀ W, Ext w W → Calls Tryz.prog 29 #[.agg #[.slice ta t.length tc]] W fun e w' => e = .returned (.int .i64 0) ∧ Ext W w') := Lib.hid fun W hW => hv0 ▸ rValid_calls _ t W (hT.out.ext hW)
 have hs' := Lib.hid hs
 have hz9 := Lib.hid hv0
 obtain ⟨P, hP⟩ : ∃ P : Nat, Hid (P = 2 ^ t.length) := ⟨_, rfl⟩
 have hshl : wrap64 (2 ^ t.length) = (P : Int) := by rw [hP.out]; exact allsets_shl (by omega)
 have hP64 : P ≤ 64 := by rw [hP.out]; have : 2 ^ t.length ≤ 2 ^ 6 := Nat.pow_le_pow_right (by decide) hlen; omega
 have d1 : decide (12 < (t.length : Int)) = false := decide_eq_false (by omega)
 have hmk := run_make_bools P (by omega)
 obtain ⟨j0, hj0, jz0, jz1, jz2⟩ := info_parts rowsI_info
 clear h hs hv0
 go_enter Tryz.func11, Tryz.ntmps11
 go_wp2_with fail
 refine (hv.out _ (by with_reducible repeat' (first | exact Ext.refl _ | assumption | refine Ext.drewN ?_ _ | refine Ext.drew ?_ | refine Ext.alloc ?_ _ | refine Ext.trans ?_ (by with_reducible assumption)))).mono ?_
 rintro e w1 ⟨rfl, hx1⟩
 have hB1 : Hid (Blk w1 w.heap.size 27 #[.slice ta t.length tc]) := Lib.hid ((Keep.of_ext (X := fun _ => False) hx1).blk (blk_new' rfl rfl) id)
 have hE1 := Lib.hid (((Ext.refl w).alloc (.cells #[.slice ta t.length tc] 27)).trans hx1)
 have c0 : w1.cell? ⟨w.heap.size, 0, none⟩ = some (.slice ta t.length tc) := hB1.out.cell 0
 have l0 := hB1.out.lt
 clear hx1 hv
 go_upto_region 8 with (fail)
 obtain ⟨g, hg⟩ : ∃ g, Hid (w1.heap.size = g) := ⟨_, rfl⟩
 have hwg : w.heap.size ≤ g := by rw [← hg.out]; exact hE1.out.size
 rw [hg.out]
 refine wp_abs (S := fun W => Hid (Ext w W) ∧ Hid (Blk W w.heap.size 27 #[.slice ta t.length tc]) ∧ Hid (GoodS W g t 0 P)) ?_ ?_
 ·exact ⟨Lib.hid (hE1.out.trans (by exact (by with_reducible repeat' (first | exact Ext.refl _ | assumption | refine Ext.drewN ?_ _ | refine Ext.drew ?_ | refine Ext.alloc ?_ _ | refine Ext.trans ?_ (by with_reducible assumption))))), Lib.hid (Blk.alloc hB1.out _), Lib.hid ⟨falses P, by simp [falses], blk_new' hg.out.symm rfl, fun c hc => by omega⟩⟩
 clear c0 l0 hB1 hE1 hmk
 rintro W1 ⟨hx, hB, hG⟩
 go_wp2_with fail
 (try rw [hshl])
 go_loopw [7, 8, 9] (fun vb _ _ wr => ∃ b : Nat, b ≤ P ∧ vb = .int .i64 b ∧ Hid (Ext w wr) ∧ Hid (Blk wr w.heap.size 27 #[.slice ta t.length tc]) ∧ Hid (GoodS wr g t b P)) (fun vb _ _ _ => P - (intOf vb).toNat)
 case atStart => exact ⟨0, by omega, rfl, hx, hB, hG⟩
 case round =>
  clear hx hB hG
  obtain ⟨b, hb, rfl, hE, hB, hG⟩ := hrel
  by_cases h1 : b < P
  ·obtain ⟨M, hM⟩ : ∃ M, Hid (peopleTo (b : Int) t.length = M) := ⟨_, rfl⟩
   have hMi : Hid (M <+ upI t.length) := Lib.hid (hM.out ▸ peopleTo_sub _ _)
   have hMl : M.length ≤ 512 := by have := up_len hMi.out; omega
   obtain ⟨q, hq⟩ : ∃ q, Hid (selSt t M = q) := ⟨_, rfl⟩
   have hst : Hid (standsT t M = (q, 0)) := Lib.hid (by rw [← hq.out]; exact hs'.out.stands hMi.out)
   go_upto_region 11 with (fail)
   have z0 := After.cell (show wr.cell? ⟨w.heap.size, 0, none⟩ = some (.slice ta t.length tc) from hB.out.cell 0)
   (refine wp_region_held [] [0, 1, 2, 3, 4, 5, 6, 7, 8, 9] [] (AllCon M q) (by kernel_rfl) (by kernel_rfl) ?_; simp only [pickL]; with_reducible refine wpQuiet_nil ?_)
   (refine held_quiet [0, 1, 2] [3, 4, 5, 6, 7, 8, 9] (by kernel_rfl) (by kernel_rfl) ?_; simp only [pickL, List.drop]; (repeat (go_big_quiet_step (fail))); with_reducible refine wpQuiet_nil ?_)
   (refine held_call 3 [4, 5, 6, 7, 8, 9] rfl (by kernel_rfl) 39 (#[.int .i64 (b : Int), .int .i64 (t.length : Int)]) (fun W => by kernel_rfl) rfl ?_ ?_ ?_)
   ·exact fun W W' v e hh => ⟨fun h => (hh.1 h).ext e, hh.2⟩
   ·refine fun W hW _ => (chosen_calls (b : Int) t.length W (by omega) (by omega)).mono ?_
    rw [hM.out]
    rintro e W' ⟨v, rfl, hv, hxx⟩
    exact ⟨_, rfl, hxx, ⟨fun _ => hv.read, (fun h => by cases h)⟩⟩
   rintro v ⟨Y, hY, hCv⟩
   obtain ⟨mA, mC, rfl⟩ := (hCv.1 rfl).form
   clear hCv hY Y
   simp only [Act.put, List.setIfInBounds_toArray, List.set_cons_succ, List.set_cons_zero]
   (refine held_call 4 [5, 6, 7, 8, 9] rfl (by kernel_rfl) 31 (#[.agg #[.slice ta t.length tc], .slice mA M.length mC]) (fun W => by kernel_rfl) rfl ?_ ?_ ?_)
   ·exact fun W W' v e hh => ⟨fun h => (hh.1 h).ext e, hh.2⟩
   ·refine fun W hW hD => (rstands_calls _ _ t M W (hT.out.ext (hE.out.trans hW)) (((hD 3 (dep_of 10 4 3 (by kernel_rfl))).2 rfl).1 rfl) (up_idx hMi.out) hMl (fun hn => subT_valid hz9.out hMi.out (sub_ne hn))).mono ?_
    rw [hst.out]
    rintro e W' ⟨rfl, hxx⟩
    exact ⟨_, rfl, hxx, ⟨(fun h => by cases h), fun _ => rfl⟩⟩
   rintro v ⟨Y, hY, hCv⟩
   obtain rfl := hCv.2 rfl
   clear hCv hY Y
   simp only [Act.put, List.setIfInBounds_toArray, List.set_cons_succ, List.set_cons_zero]
   (refine held_quiet [5, 6, 7, 8, 9] [] (by kernel_rfl) (by kernel_rfl) ?_; simp only [pickL, List.drop]; (repeat (go_big_quiet_step (fail))); with_reducible refine wpQuiet_nil ?_)
   intro w9 hx9 hfc htk Q0 hQ0
   simp only [pickL]
   have hB9 := Lib.hid ((Keep.of_ext (X := fun _ => False) hx9).blk hB.out id)
   have hE9 := Lib.hid (hE.out.trans hx9)
   have hG9 := Lib.hid (hG.out.ext hx9)
   clear hfc htk z0 hx9 hB hE hG hst
   refine hQ0 _ _ ?_
   clear hQ0 Q0
   have hgn : w.heap.size ≤ g ∧ w.heap.size ≠ g := by
    obtain ⟨gl, _, hb, _⟩ := hG9.out
    exact ⟨hwg, hB9.out.ne_ hb (by decide)⟩
   obtain ⟨v0, m0⟩ := hG9.out.has h1
   have ml := hG9.out.lt
   have mf := hG9.out.frozen b
   go_wp2
   go_roundw
   case rel => first | exact ⟨b + 1, h1, by go_num, Lib.hid (hE9.out.setCell (p := ⟨g, b, none⟩) hgn.1 _), Lib.hid (hB9.out.far (p := ⟨g, b, none⟩) hgn.2 _), Lib.hid (hG9.out.set_ h1 q (by rw [hM.out]; exact hq.out))⟩ | ((repeat apply Exists.intro); exact ⟨⟨b + 1, h1, by go_num, Lib.hid (hE9.out.setCell (p := ⟨g, b, none⟩) hgn.1 _), Lib.hid (hB9.out.far (p := ⟨g, b, none⟩) hgn.2 _), Lib.hid (hG9.out.set_ h1 q (by rw [hM.out]; exact hq.out))⟩, rfl⟩)
   case measure => simp [intOf]; omega
  ·obtain rfl : b = P := by omega
   clear h1 hb
   go_upto_region 16 with (fail)
   obtain ⟨B0, hB0⟩ : ∃ B0, Hid (wr.heap.size = B0) := ⟨_, rfl⟩
   rw [hB0.out]
   refine wp_abs (S := fun W => Hid (Ext w W) ∧ Hid (Blk W w.heap.size 27 #[.slice ta t.length tc]) ∧ Hid (GoodS W g t b b) ∧ Hid (OutS W w.heap.size (.slice (some ⟨B0, 0, none⟩) 0 0) [])) ?_ ?_
   ·refine ⟨Lib.hid (hE.out.trans (by exact (by with_reducible repeat' (first | exact Ext.refl _ | assumption | refine Ext.drewN ?_ _ | refine Ext.drew ?_ | refine Ext.alloc ?_ _ | refine Ext.trans ?_ (by with_reducible assumption))))), Lib.hid (Blk.alloc hB.out _), Lib.hid (hG.out.ext (by exact (by with_reducible repeat' (first | exact Ext.refl _ | assumption | refine Ext.drewN ?_ _ | refine Ext.drew ?_ | refine Ext.alloc ?_ _ | refine Ext.trans ?_ (by with_reducible assumption))))), Lib.hid ⟨[], ?_, rfl, fun j st hj => by simp at hj⟩⟩
    rw [← hB0.out]
    exact World.ownsRow_made (base := w.heap.size) (e := 23) (size := 1) wr #[] 0 hE.out.size (by unfold maxLen; omega) rfl
   clear hE hB hG hB0
   rintro W2 ⟨hE, hB, hG, hO⟩
   go_wp2_with fail
   (try rw [hshl])
   go_loopw [10, 11, 12, 13, 14, 15] (fun vo vb _ _ _ _ wr => ∃ (d m : Nat) (A : Option Addr) (C : Nat) (L : List (List Int)), d ≤ b ∧ vb = .int .i64 d ∧ vo = .slice A m C ∧ m ≤ d ∧ Hid (L.length = m) ∧ Hid (Ext w wr) ∧ Hid (Blk wr w.heap.size 27 #[.slice ta t.length tc]) ∧ Hid (GoodS wr g t b b) ∧ Hid (OutS wr w.heap.size (.slice A m C) L) ∧ Hid (BelowB t d L)) (fun _ vb _ _ _ _ _ => b - (intOf vb).toNat)
   case atStart => exact ⟨0, 0, some ⟨B0, 0, none⟩, 0, [], by omega, rfl, rfl, by omega, Lib.hid rfl, hE, hB, hG, hO, Lib.hid (BelowB.zero t)⟩
   case round =>
    clear hE hB hG hO
    obtain ⟨d, m, A, C, L, hd, rfl, rfl, hmd, hm, hE, hB, hG, hO, hW⟩ := hrel
    by_cases h2 : d < b
    ·obtain ⟨q, hq⟩ : ∃ q, Hid (selSt t (peopleTo (d : Int) t.length) = q) := ⟨_, rfl⟩
     have g0 : wr.cell? ⟨g, d, none⟩ = some (.bool q) := by rw [hG.out.cell h2, hq.out]
     have gl := hG.out.lt
     go_wp2_with fail
     (try rw [hshl])
     go_loopw [12, 13] (fun vl vi wr3 => ∃ (i : Nat) (l : Bool), i ≤ t.length ∧ vi = .int .i64 i ∧ wr3 = wr ∧ vl = .bool l ∧ Hid (leastTo t d i = l)) (fun _ vi _ => t.length - (intOf vi).toNat)
     case atStart => exact ⟨0, !q, by omega, rfl, rfl, rfl, Lib.hid (by unfold leastTo; simp [hq.out])⟩
     case round =>
      obtain ⟨i, l, hi, rfl, rfl, rfl, hl⟩ := hrel
      by_cases h3 : i < t.length
      ·have hst := leastTo_step t d i
       rw [hl.out] at hst
       have hst' := Lib.hid hst
       clear hst
       cases l with
       | false =>
        have R : Hid (leastTo t d (i + 1) = false) := Lib.hid (by rw [hst'.out]; rfl)
        clear hl hst'
        go_wp2
        go_roundw
        case rel => first | exact ⟨i + 1, false, h3, by go_num, trivial, rfl, R⟩ | ((repeat apply Exists.intro); exact ⟨i + 1, false, h3, by go_num, rfl, rfl, R⟩)
        case measure => simp [intOf]; omega
       | true =>
        cases hbit : bitB (d : Int) i with
        | false =>
         have htest : (((d : Int) / 2 ^ i).tmod 2 == 0) = true := by rw [bit_walk0 (by omega), hbit]; rfl
         have R : Hid (leastTo t d (i + 1) = true) := Lib.hid (by rw [hst'.out, hbit]; rfl)
         clear hl hst' hbit
         go_wp2
         go_roundw
         case rel => first | exact ⟨i + 1, true, h3, by go_num, trivial, rfl, R⟩ | ((repeat apply Exists.intro); exact ⟨i + 1, true, h3, by go_num, rfl, rfl, R⟩)
         case measure => simp [intOf]; omega
        | true =>
         have htest : (((d : Int) / 2 ^ i).tmod 2 == 0) = false := by rw [bit_walk0 (by omega), hbit]; rfl
         obtain ⟨c, hc⟩ : ∃ c : Nat, Hid (d - 2 ^ i = c) := ⟨_, rfl⟩
         obtain ⟨Q, hQ⟩ : ∃ Q : Nat, Hid (2 ^ i = Q) := ⟨_, rfl⟩
         have hQ1 : wrap64 (2 ^ i) = (Q : Int) := by rw [← hQ.out]; exact allsets_shl (by omega)
         have hle : Q ≤ d := by
          rw [← hQ.out]
          rw [bitB_test] at hbit
          exact Nat.ge_two_pow_of_testBit hbit
         have hc2 : Hid (d - Q = c) := Lib.hid (by rw [← hQ.out]; exact hc.out)
         have hcb : c < b := by have := hc2.out; omega
         have hsub : wrap64 ((d : Int) - (Q : Int)) = (c : Int) := by have := hc2.out; unfold wrap64; omega
         obtain ⟨r, hr⟩ : ∃ r, Hid (selSt t (peopleTo (c : Int) t.length) = r) := ⟨_, rfl⟩
         have g1 : wr.cell? ⟨g, c, none⟩ = some (.bool r) := by rw [hG.out.cell hcb, hr.out]
         have R : Hid (leastTo t d (i + 1) = r) := Lib.hid (by rw [hst'.out, hbit, hc.out, hr.out]; cases r <;> rfl)
         clear hl hst' hbit hle
         go_wp2
         go_roundw
         case rel => first | exact ⟨i + 1, r, h3, by go_num, trivial, rfl, R⟩ | ((repeat apply Exists.intro); exact ⟨i + 1, r, h3, by go_num, rfl, rfl, R⟩)
         case measure => simp [intOf]; omega
      ·obtain rfl : i = t.length := by omega
       have hl2 : Hid (leastN' t d = l) := hl
       clear h3 hi hl g0
       cases l with
       | false =>
        have hW2 := Lib.hid (hW.out.skip hl2.out)
        go_wp2
        go_roundw
        case rel => first | exact ⟨d + 1, m, A, C, L, h2, by go_num, rfl, by omega, hm, hE, hB, hG, hO, hW2⟩ | ((repeat apply Exists.intro); exact ⟨⟨d + 1, m, A, C, L, h2, by go_num, rfl, by omega, hm, hE, hB, hG, hO, hW2⟩, rfl⟩)
        case measure => simp [intOf]; omega
       | true =>
        go_wp2_with fail
        refine (chosen_calls (d : Int) t.length wr (by omega) (by omega)).mono ?_
        obtain ⟨x, hxd⟩ : ∃ x, Hid (peopleTo (d : Int) t.length = x) := ⟨_, rfl⟩
        rw [hxd.out]
        rintro e w3 ⟨xv, rfl, hxv, hq3⟩
        obtain ⟨xa, xc, rfl⟩ := owns_form hxv
        have hO3 := Lib.hid (hO.out.ext hq3)
        have hE3 := Lib.hid (hE.out.trans hq3)
        have hB3 := Lib.hid ((Keep.of_ext (X := fun _ => False) hq3).blk hB.out id)
        have hG3 := Lib.hid (hG.out.ext hq3)
        have hxv' := Lib.hid hxv
        obtain ⟨xs, hOw, hKe⟩ := hO3.out
        rw [hm.out] at hOw
        have hOw' := Lib.hid hOw
        have hKe' := Lib.hid hKe
        have hsz3 : w.heap.size ≤ w3.heap.size := hE3.out.size
        clear hq3 hE hB hG hO hxv hOw hKe hO3
        have hput : Hid (∀ p s, p ++ s = L → (∀ y ∈ s, selLt x y) → (∀ y, p.getLast? = some y → ¬ selLt x y) → BelowB t (d + 1) (p ++ x :: s)) := Lib.hid fun p s e h1 h3 => by
         subst e
         have hbn : d < 2 ^ t.length := by rw [← hP.out]; exact h2
         have := hW.out.put hbn hl2.out (by rw [hxd.out]; exact h1) (by rw [hxd.out]; exact h3)
         rwa [hxd.out] at this
        clear hW hl2 hxd
        go_wp2_with (at_builtin; refine wpList_append_any _ rfl (.tmp 86) (.tmp 90) _ rfl w.heap.size 23 j0 _ 1 24 Tryz.underlying32 hj0 jz0 jz1 jz2 rfl (by decide) (.slice A m C) m xs rfl (hOw'.out.alloc _) (w3.heap.size + 1) (some ⟨w3.heap.size, 0, none⟩) 1 1 [.slice xa x.length xc] rfl (reads_last _ #[_] _ 1 1 _ _ (by simp) (by omega) rfl) (by simp [Value.oneCell']) (by unfold maxLen; omega) (by omega) (by rw [World.size_alloc]; omega) ?_; intro v4 w4 hown4 hg4 hat4; obtain ⟨g4, c4, rfl⟩ := owns_pos hown4 (by omega))
        have k3 : Keep (fun g => (Value.slice A m C).ownBlock = some g) w3 w4 := Keep.grown (Keep.of_ext ((Ext.refl w3).alloc _)) hg4 (fun g h => Or.inl h)
        have hE4 := Lib.hid (hE3.out.keep k3 (fun i hi h => by have := (hOw'.out.lt i h).1; omega))
        have hB4 := Lib.hid (k3.blk hB3.out (own_blk_ne hOw'.out hB3.out (by decide)))
        have hG4 := Lib.hid (hG3.out.blk (fun cs hb => k3.blk hb (own_blk_ne hOw'.out hb (by decide))))
        have hx4 : IntsO w4 wr.heap.size (.slice xa x.length xc) x := k3.owns hxv'.out (fun g hg hx => by
         obtain ⟨cs, hc⟩ := owns_block hxv'.out hg
         obtain ⟨cs', hc'⟩ := owns_block hOw'.out hx
         have := blk_type hc hc'
         revert this; decide)
        have hO4 : Hid (OutS w4 w.heap.size (.slice (some ⟨g4, 0, none⟩) (m + 1) c4) (L ++ [x])) := Lib.hid ⟨xs ++ [.slice xa x.length xc], by rw [List.length_append, hm.out]; exact hown4, (hKe'.out.keepX k3 (fun g cs hx hc => by
         obtain ⟨cs', hc'⟩ := owns_block hOw'.out hx
         have := blk_type hc hc'
         revert this; decide)).push hx4⟩
        clear k3 hx4 hown4 hg4 hat4 hOw' hKe' hE3 hB3 hG3 hxv'
        (try rw [hshl])
        go_loopw [14, 15] (fun vk _ wr4 => ∃ (k : Nat) (p s : List (List Int)), vk = .int .i64 k ∧ k ≤ m ∧ Hid (p.length = k) ∧ Hid (p ++ s = L) ∧ Hid (∀ y ∈ s, selLt x y) ∧ Hid (Ext w wr4) ∧ Hid (Blk wr4 w.heap.size 27 #[.slice ta t.length tc]) ∧ Hid (GoodS wr4 g t b b) ∧ Hid (OutS wr4 w.heap.size (.slice (some ⟨g4, 0, none⟩) (m + 1) c4) (p ++ x :: s))) (fun vk _ _ => (intOf vk).toNat)
        case atStart => exact ⟨m, L, [], by go_num, Nat.le_refl _, hm, Lib.hid (List.append_nil _), Lib.hid (fun y hy => by cases hy), hE4, hB4, hG4, hO4⟩
        case round =>
         clear hE4 hB4 hG4 hO4
         obtain ⟨k, p, s, rfl, hkm, hp, hps, hss, hE, hB, hG, hO⟩ := hrel
         by_cases k0 : k = 0
         ·have dk : decide (0 < k) = false := decide_eq_false (by omega)
          have hp0 : p = [] := List.length_eq_zero_iff.1 (by rw [hp.out, k0])
          have hfin : Hid (BelowB t (d + 1) (p ++ x :: s)) := Lib.hid (hput.out p s hps.out hss.out (fun y hy => by rw [hp0] at hy; cases hy))
          have hlen : Hid ((p ++ x :: s).length = m + 1) := Lib.hid (by rw [← hm.out, ← hps.out]; simp; omega)
          clear hp0 k0 hput hps hss hp
          go_upto_region 27 with (fail)
          refine wp_region_after (by kernel_rfl) (by kernel_rfl) ?_
          repeat (go_big_quiet_step (fail))
          refine wpQuiet_nil ?_
          rintro _ ⟨u, rfl⟩
          have hO9 := Lib.hid (hO.out.ext u.ext)
          have hE9 := Lib.hid (hE.out.trans u.ext)
          have hB9 := Lib.hid ((Keep.of_ext (X := fun _ => False) u.ext).blk hB.out id)
          have hG9 := Lib.hid (hG.out.ext u.ext)
          generalize u.world = V at hO9 hE9 hB9 hG9 ⊢
          clear hO hE hB hG
          go_wp2
          go_roundw
          case rel => first | exact ⟨d + 1, m + 1, some ⟨g4, 0, none⟩, c4, p ++ x :: s, h2, by go_num, rfl, by omega, hlen, hE9, hB9, hG9, hO9, hfin⟩ | ((repeat apply Exists.intro); exact ⟨⟨d + 1, m + 1, some ⟨g4, 0, none⟩, c4, p ++ x :: s, h2, by go_num, rfl, by omega, hlen, hE9, hB9, hG9, hO9, hfin⟩, rfl⟩)
          case measure => simp [intOf]; omega
         ·have dk : 0 < k := by omega
          have hj : Hid (k - 1 + 1 = k) := Lib.hid (by omega)
          obtain ⟨p', y, hpy⟩ : ∃ p' y, Hid (p = p' ++ [y]) := ⟨p.dropLast, p.getLast (by intro e; rw [e] at hp; have := hp.out; simp at this; omega), Lib.hid (List.dropLast_concat_getLast _).symm⟩
          have hpl : Hid (p'.length = k - 1) := Lib.hid (by have h1 := hp.out; have h3 := hj.out; rw [hpy.out] at h1; simp at h1; omega)
          have ex : (p ++ x :: s)[k]? = some x := by rw [← hp.out]; simp
          have ey : (p ++ x :: s)[k - 1]? = some y := by rw [hpy.out, ← hpl.out]; simp
          obtain ⟨-, g9, ya, yc, e9, gl9, gb9, -, cy, iy, fy⟩ := hO.out.at_ ey
          cases e9
          obtain ⟨-, g9, za, zc, e9, -, -, -, cx, ix, fx⟩ := hO.out.at_ ex
          cases e9
          have ex' := Lib.hid ex
          have ey' := Lib.hid ey
          obtain ⟨r, hr⟩ : ∃ r, Hid (lessD x y = r) := ⟨_, rfl⟩
          have hcl : Hid (∀ W, Ext wr W → Calls Tryz.prog 40 #[.slice za x.length zc, .slice ya y.length yc] W fun e w' => e = .returned (.bool r) ∧ Ext W w') := Lib.hid fun W hW => hr.out ▸ less_calls _ _ x y W (ix.ext hW) (iy.ext hW)
          clear ex ey ix iy k0
          go_upto_region 27 with (fail)
          have z1 := After.cell cx
          have z2 := After.cell cy
          clear cx cy
          refine wp_region_after (by kernel_rfl) (by kernel_rfl) ?_
          repeat (go_big_quiet_step (exact After.call _ (hcl.out _ (After.ext _))))
          refine wpQuiet_nil ?_
          rintro _ ⟨u, rfl⟩
          cases r with
          | false =>
           have hfin : Hid (BelowB t (d + 1) (p ++ x :: s)) := Lib.hid (hput.out p s hps.out hss.out (fun y' hy' => by
            rw [hpy.out] at hy'
            simp at hy'
            subst hy'
            rw [← lessD_iff, hr.out]
            exact Bool.false_ne_true))
           have hlen : Hid ((p ++ x :: s).length = m + 1) := Lib.hid (by rw [← hm.out, ← hps.out]; simp; omega)
           clear hput hps hss hp hpy hpl ex' ey' hr fx fy z1 z2 hj hcl
           have hO9 := Lib.hid (hO.out.ext u.ext)
           have hE9 := Lib.hid (hE.out.trans u.ext)
           have hB9 := Lib.hid ((Keep.of_ext (X := fun _ => False) u.ext).blk hB.out id)
           have hG9 := Lib.hid (hG.out.ext u.ext)
           generalize u.world = V at hO9 hE9 hB9 hG9 ⊢
           clear hO hE hB hG
           go_wp2
           go_roundw
           case rel => first | exact ⟨d + 1, m + 1, some ⟨g4, 0, none⟩, c4, p ++ x :: s, h2, by go_num, rfl, by omega, hlen, hE9, hB9, hG9, hO9, hfin⟩ | ((repeat apply Exists.intro); exact ⟨⟨d + 1, m + 1, some ⟨g4, 0, none⟩, c4, p ++ x :: s, h2, by go_num, rfl, by omega, hlen, hE9, hB9, hG9, hO9, hfin⟩, rfl⟩)
           case measure => simp [intOf]; omega
          | true =>
           have hx9 := u.ext
           generalize u.world = w9 at hx9 ⊢
           have hO9 := hO.out.ext hx9
           have hE9 := Lib.hid (hE.out.trans hx9)
           have hB9 := Lib.hid ((Keep.of_ext (X := fun _ => False) hx9).blk hB.out id)
           have hG9 := Lib.hid (hG.out.ext hx9)
           obtain ⟨-, g9, ya2, yc2, e9, gl, gb, hgB, cy, -, fy⟩ := hO9.at_ ey'.out
           cases e9
           obtain ⟨-, g9, za2, zc2, e9, -, -, -, cx, -, fx⟩ := hO9.at_ ex'.out
           cases e9
           have hnew := Lib.hid (hO9.swap ex'.out ey'.out cx cy)
           rw [hpy.out] at hnew
           have hsw := swap_list (s := s) (x := x) (y := y) hpl.out
           rw [hj.out] at hsw
           rw [hsw] at hnew
           clear hsw
           have hps2 : Hid (p' ++ (y :: s) = L) := Lib.hid (by rw [← hps.out, hpy.out]; simp)
           have hss2 : Hid (∀ z ∈ y :: s, selLt x z) := Lib.hid (fun z hz => by
            rcases List.mem_cons.1 hz with rfl | hz
            ·exact lessD_iff.1 hr.out
            ·exact hss.out z hz)
           obtain ⟨cs, hgb9⟩ := hgB
           have nB : w.heap.size ≠ g4 := hB9.out.ne_ hgb9 (by decide)
           have nG : ∀ cs', Blk w9 g 4 cs' → g ≠ g4 := fun cs' hc => hc.ne_ hgb9 (by decide)
           have hk2 := Lib.hid (((keep_set w9 g4 k _).setCell (p := ⟨g4, k - 1, none⟩) (Or.inl rfl) _ : Keep (fun i => i = g4) w9 ((w9.setCell ⟨g4, k, none⟩ (.slice ya2 y.length yc2)).setCell ⟨g4, k - 1, none⟩ (.slice za2 x.length zc2))))
           have hEn := Lib.hid (hE9.out.keep hk2.out (fun i hi e => by omega))
           have hBn := Lib.hid (hk2.out.blk hB9.out nB)
           have hGn := Lib.hid (hG9.out.blk (fun cs hb => hk2.out.blk hb (nG cs hb)))
           have ckg := hO9.at_ ex'.out
           have fk := fx
           have fj := fy
           have hjk2 : k - 1 ≠ k := by omega
           clear hx9 hO9 hE hB hG hO hE9 hB9 hG9 hgb9 nB nG hk2 hput hps hss hp hpy ex' ey' hr z1 z2 ckg hcl
           go_wp2
           go_roundw
           case rel => first | exact ⟨k - 1, p', y :: s, by go_num, by omega, hpl, hps2, hss2, hEn, hBn, hGn, hnew⟩ | ((repeat apply Exists.intro); exact ⟨⟨k - 1, p', y :: s, by go_num, by omega, hpl, hps2, hss2, hEn, hBn, hGn, hnew⟩, rfl⟩)
           case measure => simp [intOf]; omega
    ·obtain rfl : d = b := by omega
     have hR := Lib.hid hO.out.read
     have hall : Hid (L = allC t) := Lib.hid (BelowB.all (by rw [← hP.out]; exact hW.out))
     clear hW hG hO
     go_wp2
     go_ret2
     rw [← hall.out]
     exact ⟨_, rfl, hR.out, hE.out⟩
end Go.Proofs.YtjglidlmpjmjeaaGreatDoor
