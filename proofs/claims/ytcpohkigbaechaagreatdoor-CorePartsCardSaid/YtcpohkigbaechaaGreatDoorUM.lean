/- The plain law of the reference's All: selections by numbers, least ones, in order. -/
import Derived.Test.YtcpohkigbaechaaGreatDoorUA
namespace Go.Proofs.YtcpohkigbaechaaGreatDoor
open Go.RowKit List

/-! ### bits -/
theorem bitB_test (b p : Nat) : bitB (b : Int) p = b.testBit p := by
  unfold bitB
  rw [Nat.testBit_eq_decide_div_mod_eq]
  congr 1
  rw [eq_iff_iff, show ((2 : Int) ^ p) = ((2 ^ p : Nat) : Int) by simp]
  omega
theorem peopleTo_mem {b : Int} {n : Nat} {x : Int} : x ∈ peopleTo b n ↔ ∃ k : Nat, k < n ∧ bitB b k = true ∧ x = k := by
  unfold peopleTo
  simp only [List.mem_map, List.mem_filter, List.mem_range]
  constructor
  · rintro ⟨k, ⟨h1, h2⟩, rfl⟩; exact ⟨k, h1, h2, rfl⟩
  · rintro ⟨k, h1, h2, rfl⟩; exact ⟨k, ⟨h1, h2⟩, rfl⟩
theorem up_same {n : Nat} {a b : List Int} (ha : a <+ upI n) (hb : b <+ upI n) (h : ∀ x, x ∈ a ↔ x ∈ b) : a = b := by
  have pa := (upI_sorted n).sublist ha
  have pb := (upI_sorted n).sublist hb
  exact (rise_sub pb pa fun x hx => (h x).1 hx).eq_of_length_le (rise_sub pa pb fun x hx => (h x).2 hx).length_le
theorem bits_inj {n b c : Nat} (hb : b < 2 ^ n) (hc : c < 2 ^ n) (h : peopleTo (b : Int) n = peopleTo (c : Int) n) : b = c := by
  apply Nat.eq_of_testBit_eq
  intro i
  by_cases hi : i < n
  · have key : ((i : Int) ∈ peopleTo (b : Int) n) ↔ ((i : Int) ∈ peopleTo (c : Int) n) := by rw [h]
    rw [peopleTo_mem, peopleTo_mem] at key
    have e : ∀ d : Nat, (∃ k : Nat, k < n ∧ bitB (d : Int) k = true ∧ (i : Int) = k) ↔ d.testBit i = true := fun d => by
      constructor
      · rintro ⟨k, _, h2, h3⟩
        obtain rfl : i = k := by omega
        rwa [bitB_test] at h2
      · intro h2
        exact ⟨i, hi, by rwa [bitB_test], rfl⟩
    rw [e, e] at key
    exact Bool.eq_iff_iff.2 key
  · have hle : 2 ^ n ≤ 2 ^ i := Nat.pow_le_pow_right (by omega) (by omega)
    rw [Nat.testBit_lt_two_pow (by omega), Nat.testBit_lt_two_pow (by omega)]
theorem sub_one {l : List Int} {x : Int} (h : l <+ [x]) : l = [] ∨ l = [x] := by
  cases h with
  | cons _ h => exact Or.inl (List.sublist_nil.1 h)
  | cons_cons _ h => exact Or.inr (by rw [List.sublist_nil.1 h])
theorem bits_of : ∀ {n : Nat} {l : List Int}, l <+ upI n → ∃ b : Nat, b < 2 ^ n ∧ peopleTo (b : Int) n = l
  | 0, l, h => by
    have : l = [] := by simpa [upI] using h
    subst this
    exact ⟨0, by simp, rfl⟩
  | n + 1, l, h => by
    rw [upI_succ] at h
    obtain ⟨l1, l2, rfl, h1, h2⟩ := List.sublist_append_iff.1 h
    obtain ⟨b, hb, e⟩ := bits_of h1
    have hp : 2 ^ (n + 1) = 2 ^ n + 2 ^ n := by rw [Nat.pow_succ]; omega
    rcases sub_one h2 with rfl | rfl
    · refine ⟨b, by omega, ?_⟩
      rw [peopleTo_step, bitB_test, Nat.testBit_lt_two_pow hb, e]
      simp
    · refine ⟨2 ^ n + b, by omega, ?_⟩
      rw [peopleTo_step, bitB_test, Nat.testBit_two_pow_add_eq, Nat.testBit_lt_two_pow hb]
      have e2 : peopleTo ((2 ^ n + b : Nat) : Int) n = peopleTo (b : Int) n := by
        unfold peopleTo
        congr 1
        apply List.filter_congr
        intro i hi
        rw [bitB_test, bitB_test, Nat.testBit_two_pow_add_gt (List.mem_range.1 hi)]
      rw [e2, e]
      simp
/-- a bit that is set is taken away -/
theorem bit_less {b i : Nat} (h : b.testBit i = true) (j : Nat) : (b - 2 ^ i).testBit j = (b.testBit j && decide (j ≠ i)) := by
  have hi : b / 2 ^ i % 2 = 1 := by
    rw [Nat.testBit_eq_decide_div_mod_eq] at h
    simpa using h
  have hpos : 0 < 2 ^ i := Nat.pow_pos (by omega)
  obtain ⟨q, hq⟩ : ∃ q, b / 2 ^ i = 2 * q + 1 := ⟨b / 2 ^ i / 2, by omega⟩
  obtain ⟨r, hr, hb⟩ : ∃ r, r < 2 ^ i ∧ b = 2 ^ i * (2 * q + 1) + r := ⟨b % 2 ^ i, Nat.mod_lt _ hpos, by rw [← hq, Nat.div_add_mod]⟩
  have hc : b - 2 ^ i = 2 ^ i * (2 * q) + r := by rw [hb, Nat.mul_add, Nat.mul_one]; omega
  rw [Nat.testBit_eq_decide_div_mod_eq, Nat.testBit_eq_decide_div_mod_eq]
  rcases Nat.lt_trichotomy j i with hj | hj | hj
  · rw [decide_eq_true (show j ≠ i by omega), Bool.and_true]
    congr 2
    obtain ⟨d, rfl⟩ : ∃ d, i = j + 1 + d := ⟨i - j - 1, by omega⟩
    have e : 2 ^ (j + 1 + d) = 2 ^ j * (2 * 2 ^ d) := by rw [Nat.pow_add, Nat.pow_add]; simp [Nat.mul_assoc]
    have hj0 : 0 < 2 ^ j := Nat.pow_pos (by omega)
    have e1 : (2 ^ (j + 1 + d) * (2 * q) + r) / 2 ^ j = 2 * (2 ^ d * (2 * q)) + r / 2 ^ j := by rw [e, Nat.mul_assoc, Nat.mul_add_div hj0, Nat.mul_assoc]
    have e2 : b / 2 ^ j = 2 * (2 ^ d * (2 * q + 1)) + r / 2 ^ j := by rw [hb, e, Nat.mul_assoc, Nat.mul_add_div hj0, Nat.mul_assoc]
    rw [hc, e1, e2]
    omega
  · subst hj
    rw [hc, Nat.mul_add_div hpos, Nat.div_eq_of_lt hr]
    simp
  · rw [decide_eq_true (show j ≠ i by omega), Bool.and_true]
    congr 2
    obtain ⟨d, rfl⟩ : ∃ d, j = i + 1 + d := ⟨j - i - 1, by omega⟩
    rw [Nat.pow_add, Nat.pow_add, Nat.pow_one, ← Nat.div_div_eq_div_mul, ← Nat.div_div_eq_div_mul, ← Nat.div_div_eq_div_mul, ← Nat.div_div_eq_div_mul, hc, hb, Nat.mul_add_div hpos, Nat.mul_add_div hpos, Nat.div_eq_of_lt hr, show (2 * q + 0) / 2 = (2 * q + 1 + 0) / 2 by omega]

/-! ### the least ones -/
def leastN' (t : List WishD) (b : Nat) : Bool := !selSt t (peopleTo (b : Int) t.length) && (List.range t.length).all fun i => !bitB (b : Int) i || selSt t (peopleTo ((b - 2 ^ i : Nat) : Int) t.length)
theorem erase_bits {n b k : Nat} (hk : k < (peopleTo (b : Int) n).length) : ∃ i, i < n ∧ b.testBit i = true ∧ (peopleTo (b : Int) n)[k] = (i : Int) ∧ (peopleTo (b : Int) n).eraseIdx k = peopleTo ((b - 2 ^ i : Nat) : Int) n := by
  obtain ⟨i, h1, h2, h3⟩ := peopleTo_mem.1 (List.getElem_mem hk)
  rw [bitB_test] at h2
  refine ⟨i, h1, h2, h3, up_same ((List.eraseIdx_sublist _ _).trans (peopleTo_sub _ _)) (peopleTo_sub _ _) fun x => ?_⟩
  have hs := (upI_sorted n).sublist (peopleTo_sub (b : Int) n)
  rw [List.mem_eraseIdx_iff_getElem, peopleTo_mem]
  constructor
  · rintro ⟨j, hj, hne, rfl⟩
    obtain ⟨m, m1, m2, m3⟩ := peopleTo_mem.1 (List.getElem_mem hj)
    refine ⟨m, m1, ?_, m3⟩
    rw [bitB_test] at m2 ⊢
    rw [bit_less h2, m2, Bool.true_and, decide_eq_true_eq]
    intro e
    rw [List.pairwise_iff_getElem] at hs
    rcases Nat.lt_or_gt_of_ne hne with h | h
    · have := hs j k hj hk h; omega
    · have := hs k j hk hj h; omega
  · rintro ⟨m, m1, m2, rfl⟩
    rw [bitB_test, bit_less h2, Bool.and_eq_true, decide_eq_true_eq] at m2
    obtain ⟨j, hj, e⟩ := List.mem_iff_getElem.1 (peopleTo_mem.2 ⟨m, m1, by rw [bitB_test]; exact m2.1, rfl⟩ : (m : Int) ∈ peopleTo (b : Int) n)
    refine ⟨j, hj, ?_, e⟩
    rintro rfl
    rw [e] at h3
    omega
theorem least_core {t : List WishD} {b : Nat} : leastN' t b = coreB t (peopleTo (b : Int) t.length) := by
  rw [Bool.eq_iff_iff, coreB_iff]
  unfold leastN' CoreP
  rw [Bool.and_eq_true, Bool.not_eq_true', List.all_eq_true]
  refine and_congr_right fun _ => ⟨fun h k hk => ?_, fun h i hi => ?_⟩
  · obtain ⟨i, h1, h2, _, h4⟩ := erase_bits hk
    have := h i (List.mem_range.2 h1)
    rw [bitB_test, h2, Bool.not_true, Bool.false_or] at this
    rw [h4]
    exact this
  · cases hb : bitB (b : Int) i with
    | false => rfl
    | true =>
      obtain ⟨k, hk, e⟩ := List.mem_iff_getElem.1 (peopleTo_mem.2 ⟨i, List.mem_range.1 hi, hb, rfl⟩ : (i : Int) ∈ peopleTo (b : Int) t.length)
      obtain ⟨j, _, _, h3, h4⟩ := erase_bits hk
      obtain rfl : i = j := by omega
      rw [Bool.not_true, Bool.false_or, ← h4]
      exact h k hk

/-! ### their order -/
theorem LexB.trans : ∀ {a b c : List Int}, LexB a b → LexB b c → LexB a c
  | [], b, c, h, _ => by cases b <;> simp [LexB] at h
  | x :: a, [], c, h, _ => by simp [LexB] at h
  | x :: a, y :: b, [], _, h => by simp [LexB] at h
  | x :: a, y :: b, z :: c, h1, h2 => by
    simp only [LexB] at h1 h2 ⊢
    rcases h1 with h1 | ⟨h1, h1'⟩ <;> rcases h2 with h2 | ⟨h2, h2'⟩
    · exact Or.inl (by omega)
    · exact Or.inl (by omega)
    · exact Or.inl (by omega)
    · exact Or.inr ⟨by omega, h1'.trans h2'⟩
theorem selLt.trans {a b c : List Int} (h1 : selLt a b) (h2 : selLt b c) : selLt a c := by
  rcases h1 with h1 | ⟨h1, h1'⟩ <;> rcases h2 with h2 | ⟨h2, h2'⟩
  · exact Or.inl (by omega)
  · exact Or.inl (by omega)
  · exact Or.inl (by omega)
  · exact Or.inr ⟨by omega, h1'.trans h2'⟩
def lexD : List Int → List Int → Bool
  | x :: a, y :: b => decide (x < y) || (decide (x = y) && lexD a b)
  | _, _ => false
theorem lexD_iff : ∀ {a b : List Int}, lexD a b = true ↔ LexB a b
  | [], b => by cases b <;> simp [lexD, LexB]
  | x :: a, [] => by simp [lexD, LexB]
  | x :: a, y :: b => by simp [lexD, LexB, lexD_iff (a := a) (b := b)]
/-- what less answers -/
def lessD (a b : List Int) : Bool := if a.length ≠ b.length then decide (a.length < b.length) else lexD a b
theorem lessD_iff {a b : List Int} : lessD a b = true ↔ selLt a b := by
  unfold lessD selLt
  split
  · rename_i h
    simp only [decide_eq_true_eq]
    exact ⟨Or.inl, fun h' => h'.elim id fun h' => absurd h'.1 h⟩
  · rename_i h
    rw [lexD_iff]
    exact ⟨fun h' => Or.inr ⟨by omega, h'⟩, fun h' => h'.elim (fun h' => absurd (Nat.ne_of_lt h') h) (·.2)⟩
theorem lex_total : ∀ {a b : List Int}, a.length = b.length → a = b ∨ LexB a b ∨ LexB b a
  | [], [], _ => Or.inl rfl
  | [], _ :: _, h => by simp at h
  | _ :: _, [], h => by simp at h
  | x :: a, y :: b, h => by
    simp only [LexB]
    rcases Int.lt_trichotomy x y with h1 | h1 | h1
    · exact Or.inr (Or.inl (Or.inl h1))
    · subst h1
      rcases lex_total (a := a) (b := b) (by simpa using h) with h2 | h2 | h2
      · exact Or.inl (by rw [h2])
      · exact Or.inr (Or.inl (Or.inr ⟨rfl, h2⟩))
      · exact Or.inr (Or.inr (Or.inr ⟨rfl, h2⟩))
    · exact Or.inr (Or.inr (Or.inl h1))
theorem sel_total (a b : List Int) : a = b ∨ selLt a b ∨ selLt b a := by
  unfold selLt
  rcases Nat.lt_trichotomy a.length b.length with h | h | h
  · exact Or.inr (Or.inl (Or.inl h))
  · rcases lex_total h with h2 | h2 | h2
    · exact Or.inl h2
    · exact Or.inr (Or.inl (Or.inr ⟨h, h2⟩))
    · exact Or.inr (Or.inr (Or.inr ⟨h.symm, h2⟩))
  · exact Or.inr (Or.inr (Or.inl h))
theorem sorted_same : ∀ {a b : List (List Int)}, a.Pairwise selLt → b.Pairwise selLt → (∀ x, x ∈ a ↔ x ∈ b) → a = b
  | [], [], _, _, _ => rfl
  | [], y :: b, _, _, h => by have := (h y).2 List.mem_cons_self; cases this
  | x :: a, [], _, _, h => by have := (h x).1 List.mem_cons_self; cases this
  | x :: a, y :: b, ha, hb, h => by
    rw [List.pairwise_cons] at ha hb
    have e : x = y := by
      rcases List.mem_cons.1 ((h x).1 List.mem_cons_self) with e | hx
      · exact e
      · rcases List.mem_cons.1 ((h y).2 List.mem_cons_self) with e | hy
        · exact e.symm
        · exact absurd ((ha.1 y hy).trans (hb.1 x hx)) (selLt.irrefl _)
    subst e
    rw [sorted_same ha.2 hb.2 fun z => ?_]
    constructor
    · intro hz
      rcases List.mem_cons.1 ((h z).1 (List.mem_cons_of_mem _ hz)) with rfl | hz'
      · exact absurd (ha.1 _ hz) (selLt.irrefl _)
      · exact hz'
    · intro hz
      rcases List.mem_cons.1 ((h z).2 (List.mem_cons_of_mem _ hz)) with rfl | hz'
      · exact absurd (hb.1 _ hz) (selLt.irrefl _)
      · exact hz'
/-- the cores among the numbers below b, in order -/
def BelowB (t : List WishD) (b : Nat) (out : List (List Int)) : Prop := out.Pairwise selLt ∧ ∀ l, l ∈ out ↔ ∃ c, c < b ∧ leastN' t c = true ∧ l = peopleTo (c : Int) t.length
theorem BelowB.zero (t : List WishD) : BelowB t 0 [] := ⟨List.Pairwise.nil, fun l => ⟨fun h => (by cases h), fun ⟨c, h, _⟩ => (by omega)⟩⟩
theorem BelowB.skip {t : List WishD} {b : Nat} {out : List (List Int)} (h : BelowB t b out) (hb : leastN' t b = false) : BelowB t (b + 1) out := by
  refine ⟨h.1, fun l => (h.2 l).trans ⟨?_, ?_⟩⟩
  · rintro ⟨c, h1, h2, h3⟩; exact ⟨c, by omega, h2, h3⟩
  · rintro ⟨c, h1, h2, h3⟩
    refine ⟨c, ?_, h2, h3⟩
    by_cases e : c = b
    · subst e; rw [hb] at h2; cases h2
    · omega
/-- a place among those that are in order -/
theorem BelowB.put {t : List WishD} {b : Nat} {p s : List (List Int)} (h : BelowB t b (p ++ s)) (hbn : b < 2 ^ t.length) (hb : leastN' t b = true) (hs : ∀ y ∈ s, selLt (peopleTo (b : Int) t.length) y)
    (hp : ∀ y, p.getLast? = some y → ¬ selLt (peopleTo (b : Int) t.length) y) : BelowB t (b + 1) (p ++ peopleTo (b : Int) t.length :: s) := by
  obtain ⟨h1, h2⟩ := h
  have hx : ∀ y ∈ p ++ s, y ≠ peopleTo (b : Int) t.length := fun y hy e => by
    obtain ⟨c, h3, _, h5⟩ := (h2 y).1 hy
    have := bits_inj (n := t.length) (by omega) hbn (h5.symm.trans e)
    omega
  rw [List.pairwise_append] at h1
  have hp' : ∀ y ∈ p, selLt y (peopleTo (b : Int) t.length) := by
    intro y hy
    have hne : p ≠ [] := by intro e; rw [e] at hy; cases hy
    have hl : p.getLast? = some (p.getLast hne) := List.getLast?_eq_some_getLast hne
    have hlast : selLt (p.getLast hne) (peopleTo (b : Int) t.length) := by
      rcases sel_total (p.getLast hne) (peopleTo (b : Int) t.length) with e | e | e
      · exact absurd e (hx _ (List.mem_append_left _ (List.getLast_mem hne)))
      · exact e
      · exact absurd e (hp _ hl)
    rw [← List.dropLast_concat_getLast hne] at hy h1
    rcases List.mem_append.1 hy with hy | hy
    · exact ((List.pairwise_append.1 h1.1).2.2 y hy _ (List.mem_singleton.2 rfl)).trans hlast
    · rw [List.mem_singleton.1 hy]; exact hlast
  refine ⟨?_, fun l => ?_⟩
  · rw [List.pairwise_append]
    refine ⟨h1.1, List.pairwise_cons.2 ⟨hs, h1.2.1⟩, fun a ha c hc => ?_⟩
    rcases List.mem_cons.1 hc with rfl | hc
    · exact hp' a ha
    · exact h1.2.2 a ha c hc
  · rw [List.mem_append, List.mem_cons]
    constructor
    · rintro (h | rfl | h)
      · obtain ⟨c, h3, h4⟩ := (h2 l).1 (List.mem_append_left _ h); exact ⟨c, by omega, h4⟩
      · exact ⟨b, by omega, hb, rfl⟩
      · obtain ⟨c, h3, h4⟩ := (h2 l).1 (List.mem_append_right _ h); exact ⟨c, by omega, h4⟩
    · rintro ⟨c, h3, h4, h5⟩
      by_cases e : c = b
      · subst e; exact Or.inr (Or.inl h5)
      · rcases List.mem_append.1 ((h2 l).2 ⟨c, by omega, h4, h5⟩) with h | h
        · exact Or.inl h
        · exact Or.inr (Or.inr h)
theorem BelowB.all {t : List WishD} {out : List (List Int)} (h : BelowB t (2 ^ t.length) out) : out = allC t := by
  refine sorted_same h.1 ((sels_sorted t.length).filter _) fun l => (h.2 l).trans ?_
  rw [mem_allC, ← coreB_iff]
  constructor
  · rintro ⟨c, _, h2, rfl⟩
    exact ⟨peopleTo_sub _ _, by rw [← least_core]; exact h2⟩
  · rintro ⟨h1, h2⟩
    obtain ⟨c, h3, rfl⟩ := bits_of h1
    exact ⟨c, h3, by rw [least_core]; exact h2, rfl⟩
end Go.Proofs.YtcpohkigbaechaaGreatDoor
