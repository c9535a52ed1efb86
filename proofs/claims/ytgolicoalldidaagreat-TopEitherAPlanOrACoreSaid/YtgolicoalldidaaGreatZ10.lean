import Derived.Test.YtgolicoalldidaaGreatZ03
import Derived.Test.YtgolicoalldidaaGreatZ07
import Derived.Test.YtgolicoalldidaaGreatZ09
import Derived.Test.YtgolicoalldidaaGreatZ02
import Derived.Deep.Cut
set_option maxHeartbeats 12800000
namespace Go.Proofs.YtgolicoalldidaaGreat
open Go.RowKit
def kidsC (f : Int → OptD → List (List Int × Int)) : List OptD → Int → List (List Int × Int)
 | [], _ => []
 | o :: r, i => f i o ++ kidsC f r (i + 1)
def choicesL : List WishD → List Int → Int → List (List Int × Int)
 | [], pre, harm => [(pre, harm)]
 | x :: r, pre, harm => kidsC (fun i o => choicesL r (pre ++ [i]) (harm + o.harm)) x.opts 0
def okFrom (t : List WishD) (k : Nat) (p : List Int) : Bool := (List.range p.length).all fun d => decide (d < k) || decide (earlierI t p d < 0)
def goodC (t : List WishD) (b : Int) (k : Nat) (c : List Int × Int) : Bool := okFrom t k c.1 && decide (c.2 < b)
theorem kidsC_mem {f : Int → OptD → List (List Int × Int)} {c : List Int × Int} : ∀ {l : List OptD} {i : Int}, c ∈ kidsC f l i → ∃ j o, o ∈ l ∧ c ∈ f j o
 | [], _, h => by cases h
 | o :: r, i, h => by
  simp only [kidsC, List.mem_append] at h
  rcases h with h | h
  ·exact ⟨i, o, List.mem_cons_self, h⟩
  ·obtain ⟨j, o', h1, h2⟩ := kidsC_mem h
   exact ⟨j, o', List.mem_cons_of_mem _ h1, h2⟩
theorem choicesL_pre {c : List Int × Int} : ∀ {l : List WishD} {pre : List Int} {harm : Int}, c ∈ choicesL l pre harm → ∃ s, c.1 = pre ++ s ∧ s.length = l.length
 | [], pre, harm, h => by simp [choicesL] at h; exact ⟨[], by rw [h]; simp, rfl⟩
 | x :: r, pre, harm, h => by
  obtain ⟨j, o, _, h2⟩ := kidsC_mem h
  obtain ⟨s, e, hs⟩ := choicesL_pre h2
  exact ⟨j :: s, by rw [e]; simp, by simp [hs]⟩
theorem leastN_le : ∀ (l : List OptD) (n : Int), leastN l n ≤ n ∧ ∀ o ∈ l, leastN l n ≤ o.harm
 | [], n => ⟨Int.le_refl _, fun _ h => by cases h⟩
 | x :: r, n => by
  obtain ⟨h1, h2⟩ := leastN_le r (min n x.harm)
  show leastN r (min n x.harm) ≤ n ∧ _
  refine ⟨by omega, fun o ho => ?_⟩
  show leastN r (min n x.harm) ≤ o.harm
  rcases List.mem_cons.1 ho with rfl | ho
  ·omega
  ·exact h2 o ho
theorem choicesL_harm {c : List Int × Int} : ∀ {l : List WishD} {pre : List Int} {harm : Int}, c ∈ choicesL l pre harm → harm + leastSum l ≤ c.2
 | [], pre, harm, h => by simp [choicesL] at h; rw [h]; simp [leastSum]
 | x :: r, pre, harm, h => by
  obtain ⟨j, o, ho, h2⟩ := kidsC_mem h
  have h3 := choicesL_harm h2
  have h4 : leastB x ≤ o.harm := (leastN_le x.opts 1000000).2 o ho
  simp only [leastSum]
  omega
theorem kidsG_opens (g : (List Int × Int) → Bool) {f : Int → OptD → Nat → Res} {h : Int → OptD → List (List Int × Int)} (hf : ∀ i o N, (f i o N).opens = (h i o).filter g) : ∀ (l : List OptD) (i : Int) (N : Nat), (kidsG f l i N).opens = (kidsC h l i).filter g
 | [], _, _ => rfl
 | o :: r, i, N => by simp only [kidsG, kidsC, List.filter_append, hf, kidsG_opens g hf r]
theorem okFrom_clash {t : List WishD} {pre s : List Int} {b : Int} {h : Int} (hc : 0 ≤ lastClash t pre) : goodC t b (pre.length - 1) (pre ++ s, h) = false := by
 have hpos : 0 < pre.length := by
  rcases Nat.eq_zero_or_pos pre.length with h | h
  ·simp [lastClash, h] at hc
  ·exact h
 have e : earlierI t (pre ++ s) (pre.length - 1) = lastClash t pre := by
  have := earlierI_take (t := t) (pick := pre ++ s) (d := pre.length) (j := pre.length - 1) (by omega)
  rw [List.take_left] at this
  rw [← this]
  unfold lastClash
  rw [if_neg (by omega)]
 have e2 : 0 ≤ earlierI t (pre ++ s) (pre.length - 1) := by rw [e]; exact hc
 simp only [goodC, okFrom, Bool.and_eq_false_iff]
 left
 rw [List.all_eq_false]
 exact ⟨pre.length - 1, by simp; omega, by simp; omega⟩
theorem okFrom_step {t : List WishD} {pre : List Int} {p : List Int} (hp : ∃ s, p = pre ++ s) (hc : ¬ 0 ≤ lastClash t pre) : okFrom t (pre.length - 1) p = okFrom t pre.length p := by
 obtain ⟨s, rfl⟩ := hp
 unfold okFrom
 rw [Bool.eq_iff_iff, List.all_eq_true, List.all_eq_true]
 refine ⟨fun h d hd => ?_, fun h d hd => ?_⟩
 ·have := h d hd
  simp only [Bool.or_eq_true, decide_eq_true_eq] at this ⊢
  omega
 ·have := h d hd
  simp only [Bool.or_eq_true, decide_eq_true_eq] at this ⊢
  rcases this with h1 | h1
  ·rcases Nat.lt_or_ge d (pre.length - 1) with h2 | h2
   ·exact Or.inl h2
   ·right
    have hd1 : d = pre.length - 1 := by omega
    have e := earlierI_take (t := t) (pick := pre ++ s) (d := pre.length) (j := pre.length - 1) (by omega)
    rw [List.take_left] at e
    rw [hd1, ← e]
    unfold lastClash at hc
    rw [if_neg (by omega)] at hc
    omega
  ·exact Or.inr h1
theorem filter_none {α : Type} {g : α → Bool} {l : List α} (h : ∀ c ∈ l, g c = false) : l.filter g = [] := by
 rw [List.filter_eq_nil_iff]
 intro c hc
 rw [h c hc]
 simp
theorem growL_opens (t : List WishD) (b : Int) : ∀ (l : List WishD) (pre : List Int) (harm : Int) (N : Nat), (growL t b l pre harm N).opens = (choicesL l pre harm).filter (goodC t b (pre.length - 1))
 | [], pre, harm, N => by
  simp only [growL, choicesL]
  split
  ·rename_i hc
   rw [filter_none]
   intro c hc'
   simp at hc'
   subst hc'
   have := okFrom_clash (s := []) (b := b) (h := harm) hc
   simpa using this
  ·rename_i hc
   have hok : okFrom t (pre.length - 1) pre = true := by
    rw [okFrom_step ⟨[], by simp⟩ hc]
    unfold okFrom
    rw [List.all_eq_true]
    intro d hd
    simp at hd
    simp [hd]
   split
   ·rename_i hb
    rw [filter_none]
    intro c hc'
    simp at hc'
    subst hc'
    simp [goodC]
    omega
   ·rename_i hb
    have hg : goodC t b (pre.length - 1) (pre, harm) = true := by simp [goodC, hok]; omega
    simp [hg]
 | x :: r, pre, harm, N => by
  simp only [growL]
  split
  ·rename_i hc
   rw [filter_none]
   intro c hc'
   obtain ⟨s, e, _⟩ := choicesL_pre hc'
   have := okFrom_clash (s := s) (b := b) (h := c.2) hc
   rw [← e] at this
   exact this
  ·rename_i hc
   split
   ·rename_i hb
    rw [filter_none]
    intro c hc'
    have := choicesL_harm hc'
    simp [goodC]
    omega
   ·simp only [choicesL]
    refine kidsG_opens _ (fun i o N' => ?_) x.opts 0 (N + 1)
    rw [growL_opens t b r]
    refine List.filter_congr fun c hc' => ?_
    obtain ⟨s, e, _⟩ := choicesL_pre hc'
    unfold goodC
    rw [okFrom_step (pre := pre) ⟨i :: s, by rw [e]; simp⟩ hc]
    simp
theorem kidsG_ests_nil {P : (List Int × Int) → Prop} {f : Int → OptD → Nat → Res} {h : Int → OptD → List (List Int × Int)} : ∀ (l : List OptD) (i : Int) (N : Nat), (∀ i o N, (f i o N).ests = [] → ∀ c ∈ h i o, P c) → (kidsG f l i N).ests = [] → ∀ c ∈ kidsC h l i, P c
 | [], _, _, _, _, c, hc => by cases hc
 | o :: r, i, N, hf, he, c, hc => by
  simp only [kidsG, List.append_eq_nil_iff] at he
  simp only [kidsC, List.mem_append] at hc
  rcases hc with hc | hc
  ·exact hf i o N he.1 c hc
  ·exact kidsG_ests_nil r (i + 1) _ hf he.2 c hc
theorem growL_all (t : List WishD) (b : Int) : ∀ (l : List WishD) (pre : List Int) (harm : Int) (N : Nat), (growL t b l pre harm N).ests = [] → ∀ c ∈ choicesL l pre harm, okFrom t (pre.length - 1) c.1 = true → c.2 < b
 | [], pre, harm, N, he, c, hc, hok => by
  simp only [growL] at he
  simp only [choicesL, List.mem_singleton] at hc
  subst hc
  split at he
  ·rename_i hcl
   have := okFrom_clash (s := []) (b := harm + 1) (h := harm) hcl
   simp only [goodC, List.append_nil, hok, Bool.true_and, decide_eq_false_iff_not] at this
   omega
  ·split at he
   ·simp at he
   ·dsimp only; omega
 | x :: r, pre, harm, N, he, c, hc, hok => by
  simp only [growL] at he
  obtain ⟨s, e, _⟩ := choicesL_pre hc
  split at he
  ·rename_i hcl
   have := okFrom_clash (s := s) (b := c.2 + 1) (h := c.2) hcl
   simp only [goodC, ← e, hok, Bool.true_and, decide_eq_false_iff_not] at this
   omega
  ·rename_i hcl
   split at he
   ·simp at he
   ·refine kidsG_ests_nil (P := fun c => okFrom t (pre.length - 1) c.1 = true → c.2 < b) (h := fun i o => choicesL r (pre ++ [i]) (harm + o.harm)) x.opts 0 (N + 1) (fun i o N' he' c' hc' hok' => ?_) he c hc hok
    obtain ⟨s', e', _⟩ := choicesL_pre hc'
    refine growL_all t b r (pre ++ [i]) (harm + o.harm) N' he' c' hc' ?_
    rw [okFrom_step (pre := pre) ⟨i :: s', by rw [e']; simp⟩ hcl] at hok'
    simpa using hok'
def lawfulL (t : List WishD) : List (List Int × Int) := (choicesL t [] 0).filter fun c => okFrom t 0 c.1
theorem opens_lawful (t : List WishD) (b : Int) : (growL t b t [] 0 0).opens = (lawfulL t).filter fun c => decide (c.2 < b) := by
 rw [growL_opens, lawfulL, List.filter_filter]
 refine List.filter_congr fun c _ => ?_
 simp [goodC, Bool.and_comm]
theorem bestRes_none {t : List WishD} {b : Int} (h1 : (growL t b t [] 0 0).opens = []) (h2 : (growL t b t [] 0 0).ests = []) : lawfulL t = [] := by
 rw [opens_lawful, List.filter_eq_nil_iff] at h1
 rw [lawfulL, List.filter_eq_nil_iff]
 intro c hc hok
 have h3 := growL_all t b t [] 0 0 h2 c hc hok
 exact h1 c (by rw [lawfulL, List.mem_filter]; exact ⟨hc, hok⟩) (by simpa using h3)
def Beside (b : Int) (f f' : Option (List Int × Int)) : Prop := (f = none ∧ ∀ y, f' = some y → b ≤ y.2) ∨ ∃ y, f = some y ∧ f' = some y ∧ y.2 < b
theorem foldFound_filter {b : Int} : ∀ (l : List (List Int × Int)) (f f' : Option (List Int × Int)), Beside b f f' → Beside b (foldFound f (l.filter fun c => decide (c.2 < b))) (foldFound f' l)
 | [], _, _, h => h
 | x :: r, f, f', h => by
  by_cases hx : x.2 < b
  ·rw [List.filter_cons_of_pos (by simpa using hx)]
   refine foldFound_filter r (stepFound f x) (stepFound f' x) ?_
   rcases h with ⟨rfl, h⟩ | ⟨y, rfl, rfl, h⟩
   ·right
    refine ⟨x, rfl, ?_, hx⟩
    cases f' with
    | none => rfl
    | some y =>
     have := h y rfl
     simp only [stepFound]
     rw [if_pos (by omega)]
   ·right
    simp only [stepFound]
    split
    ·exact ⟨x, rfl, rfl, hx⟩
    ·exact ⟨y, rfl, rfl, h⟩
  ·rw [List.filter_cons_of_neg (by simpa using hx)]
   refine foldFound_filter r f (stepFound f' x) ?_
   rcases h with ⟨rfl, h⟩ | ⟨y, rfl, rfl, h⟩
   ·left
    refine ⟨rfl, fun y hy => ?_⟩
    cases f' with
    | none => simp only [stepFound, Option.some.injEq] at hy; subst hy; omega
    | some z =>
     have := h z rfl
     simp only [stepFound] at hy
     split at hy <;> (simp only [Option.some.injEq] at hy; subst hy; omega)
   ·right
    refine ⟨y, rfl, ?_, h⟩
    simp only [stepFound]
    rw [if_neg (by omega)]
def bestOf (t : List WishD) : Option (List Int × Int) := foldFound none (lawfulL t)
theorem bestRes_some {t : List WishD} {b : Int} {r : List Int × Int} (h : foldFound none (growL t b t [] 0 0).opens = some r) : bestOf t = some r ∧ r.2 < b := by
 rw [opens_lawful] at h
 rcases foldFound_filter (lawfulL t) none none (b := b) (Or.inl ⟨rfl, fun y hy => by cases hy⟩) with ⟨h1, _⟩ | ⟨y, h1, h2, h3⟩
 ·rw [h1] at h; cases h
 ·rw [h1] at h; cases h; exact ⟨h2, h3⟩
theorem foldFound_spec : ∀ (l : List (List Int × Int)) (f : Option (List Int × Int)) (r : List Int × Int), foldFound f l = some r → (r ∈ l ∨ f = some r) ∧ (∀ x ∈ l, r.2 ≤ x.2) ∧ ∀ y, f = some y → r.2 ≤ y.2
 | [], f, r, h => by
  have h' : f = some r := h
  refine ⟨Or.inr h', fun x hx => (by cases hx), fun y hy => ?_⟩
  rw [h'] at hy
  cases hy
  exact Int.le_refl _
 | x :: l, f, r, h => by
  obtain ⟨h1, h2, h3⟩ := foldFound_spec l (stepFound f x) r h
  cases f with
  | none =>
   have hx := h3 x rfl
   refine ⟨?_, fun y hy => ?_, fun y hy => by cases hy⟩
   ·rcases h1 with h1 | h1
    ·exact Or.inl (List.mem_cons_of_mem _ h1)
    ·simp only [stepFound, Option.some.injEq] at h1; exact Or.inl (by rw [← h1]; exact List.mem_cons_self)
   ·rcases List.mem_cons.1 hy with rfl | hy
    ·exact hx
    ·exact h2 y hy
  | some z =>
   by_cases hxz : x.2 < z.2
   ·have e : stepFound (some z) x = some x := by simp [stepFound, hxz]
    have hx := h3 x e
    refine ⟨?_, fun y hy => ?_, fun y hy => by cases hy; omega⟩
    ·rcases h1 with h1 | h1
     ·exact Or.inl (List.mem_cons_of_mem _ h1)
     ·rw [e] at h1; cases h1; exact Or.inl List.mem_cons_self
    ·rcases List.mem_cons.1 hy with rfl | hy
     ·exact hx
     ·exact h2 y hy
   ·have e : stepFound (some z) x = some z := by simp [stepFound, hxz]
    have hz := h3 z e
    refine ⟨?_, fun y hy => ?_, fun y hy => by cases hy; exact hz⟩
    ·rcases h1 with h1 | h1
     ·exact Or.inl (List.mem_cons_of_mem _ h1)
     ·rw [e] at h1; exact Or.inr h1
    ·rcases List.mem_cons.1 hy with rfl | hy
     ·omega
     ·exact h2 y hy
end Go.Proofs.YtgolicoalldidaaGreat
namespace Go.Proofs.YtgolicoalldidaaGreat
open Go.RowKit
theorem shareB_comm (a b : List Int) : shareB a b = shareB b a := by
 have h : ∀ a b : List Int, shareB a b = true → shareB b a = true := by
  intro a b h
  simp only [shareB, List.any_eq_true, List.contains_iff_mem] at h ⊢
  obtain ⟨x, h1, h2⟩ := h
  exact ⟨x, h2, h1⟩
 rw [Bool.eq_iff_iff]
 exact ⟨h a b, h b a⟩
theorem meetB_comm (a b : List (Int × Int)) : meetB a b = meetB b a := by
 have h : ∀ a b : List (Int × Int), meetB a b = true → meetB b a = true := by
  intro a b h
  simp only [meetB, List.any_eq_true, Bool.and_eq_true, decide_eq_true_eq] at h ⊢
  obtain ⟨x, h1, y, h2, h3, h4⟩ := h
  exact ⟨y, h2, x, h1, h4, h3⟩
 rw [Bool.eq_iff_iff]
 exact ⟨h a b, h b a⟩
theorem clashB_comm (a b : WishD) (x y : OptD) : clashB a b x y = clashB b a y x := by
 unfold clashB
 rw [shareB_comm, meetB_comm]
 congr 2
 rw [Bool.eq_iff_iff]
 simp only [Bool.and_eq_true, decide_eq_true_eq]
 omega
theorem clashAt_comm (t : List WishD) (p : List Int) (i d : Nat) : clashAt t p i d = clashAt t p d i := by
 unfold clashAt
 cases optOf t p i <;> cases optOf t p d <;> simp
 rename_i a b
 exact clashB_comm _ _ _ _
theorem freeB_no {t : List WishD} {p : List Int} (h : freeB t p = true) {i d : Nat} (hi : i < p.length) (hd : d < p.length) (hne : i ≠ d) : clashAt t p i d = false := by
 have main : ∀ i d, i < d → d < p.length → clashAt t p i d = false := by
  intro i d hid hd
  cases hc : clashAt t p i d with
  | false => rfl
  | true =>
   have h1 : decide (0 ≤ earlierI t p d) = true := by
    unfold earlierI
    rw [findI_ge, List.any_eq_true]
    exact ⟨i, by simpa using hid, hc⟩
   rw [decide_eq_true_eq] at h1
   rw [freeB_hit hd h1] at h
   cases h
 rcases Nat.lt_or_gt_of_ne hne with h1 | h1
 ·exact main i d h1 hd
 ·rw [clashAt_comm]; exact main d i h1 hi
theorem kidsR_at {g : Int → Int → OptD → Bool} : ∀ {i : Int} {ks : List Int} {os : List OptD}, kidsR g i ks os = true → ∀ (j : Nat) (k : Int) (o : OptD), ks[j]? = some k → os[j]? = some o → g (i + j) k o = true
 | i, [], os, _, j, k, o, h, _ => by simp at h
 | i, _ :: _, [], _, j, k, o, _, h => by simp at h
 | i, a :: ks, b :: os, h, 0, k, o, h1, h2 => by
  simp only [kidsR, Bool.and_eq_true] at h
  simp at h1 h2
  subst h1 h2
  simpa using h.1
 | i, a :: ks, b :: os, h, j + 1, k, o, h1, h2 => by
  simp only [kidsR, Bool.and_eq_true] at h
  have := kidsR_at h.2 j k o (by simpa using h1) (by simpa using h2)
  rw [show i + ((j + 1 : Nat) : Int) = i + 1 + j by omega]
  exact this
theorem mem_choicesL : ∀ {l : List WishD} {pre : List Int} {harm : Int} {c : List Int × Int}, c ∈ choicesL l pre harm ↔ ∃ s, c.1 = pre ++ s ∧ choiceB l s = true ∧ c.2 = harm + sumH l s
 | [], pre, harm, c => by
  simp only [choicesL, List.mem_singleton]
  refine ⟨fun h => ⟨[], by simp [h], rfl, by simp [h, sumH]⟩, ?_⟩
  rintro ⟨s, h1, h2, h3⟩
  cases s with
  | nil => obtain ⟨a, b⟩ := c; simp [sumH] at h1 h3; rw [h1, h3]
  | cons k s => simp [choiceB] at h2
 | x :: r, pre, harm, c => by
  have key : ∀ (l : List OptD) (i : Int), c ∈ kidsC (fun i o => choicesL r (pre ++ [i]) (harm + o.harm)) l i ↔ ∃ (j : Nat) (o : OptD), l[j]? = some o ∧ c ∈ choicesL r (pre ++ [i + j]) (harm + o.harm) := by
   intro l
   induction l with
   | nil => intro i; simp [kidsC]
   | cons o l ih =>
    intro i
    simp only [kidsC, List.mem_append, ih]
    constructor
    ·rintro (h | ⟨j, o', h1, h2⟩)
     ·exact ⟨0, o, rfl, by simpa using h⟩
     ·refine ⟨j + 1, o', by simpa using h1, ?_⟩
      rw [show i + ((j + 1 : Nat) : Int) = i + 1 + j by omega]
      exact h2
    ·rintro ⟨j, o', h1, h2⟩
     cases j with
     | zero => simp at h1; subst h1; left; simpa using h2
     | succ j =>
      right
      refine ⟨j, o', by simpa using h1, ?_⟩
      rw [show i + 1 + (j : Int) = i + ((j + 1 : Nat) : Int) by omega]
      exact h2
  simp only [choicesL, key, Int.zero_add]
  constructor
  ·rintro ⟨j, o, h1, h2⟩
   obtain ⟨s, e, hs, hh⟩ := mem_choicesL.1 h2
   have hj := (List.getElem?_eq_some_iff.1 h1).1
   refine ⟨(j : Int) :: s, by rw [e]; simp, ?_, ?_⟩
   ·simp only [choiceB, Bool.and_eq_true]
    exact ⟨idxB_of_lt hj, hs⟩
   ·simp only [sumH, Int.toNat_natCast, h1, Option.getD_some]
    omega
  ·rintro ⟨s, e, hs, hh⟩
   cases s with
   | nil => simp [choiceB] at hs
   | cons k s =>
    simp only [choiceB, Bool.and_eq_true] at hs
    obtain ⟨j, rfl, hj⟩ := idxB_nat hs.1
    refine ⟨j, x.opts[j], List.getElem?_eq_getElem hj, mem_choicesL.2 ⟨s, by rw [e]; simp, hs.2, ?_⟩⟩
    simp only [sumH, Int.toNat_natCast, List.getElem?_eq_getElem hj, Option.getD_some] at hh
    omega
theorem okFrom_free (t : List WishD) (p : List Int) : okFrom t 0 p = freeB t p := by
 unfold okFrom freeB
 rw [Bool.eq_iff_iff, List.all_eq_true, List.all_eq_true]
 refine ⟨fun h d hd => ?_, fun h d hd => ?_⟩ <;>
 ·have := h d hd
  simp at this ⊢
  omega
theorem mem_lawfulL {t : List WishD} (hv : validT t = 0) {c : List Int × Int} : c ∈ lawfulL t ↔ lawfulB t c.1 = true ∧ c.2 = sumH t c.1 := by
 unfold lawfulL
 rw [List.mem_filter, mem_choicesL, okFrom_free]
 simp only [lawfulB, hv, decide_true, Bool.true_and, Bool.and_eq_true]
 constructor
 ·rintro ⟨⟨s, h1, h2, h3⟩, h4⟩
  simp at h1
  subst h1
  exact ⟨⟨h2, h4⟩, by omega⟩
 ·rintro ⟨⟨h1, h2⟩, h3⟩
  exact ⟨⟨c.1, by simp, h1, by omega⟩, h2⟩
theorem bestOf_spec {t : List WishD} (hv : validT t = 0) {p : List Int} {h : Int} (hb : bestOf t = some (p, h)) :
  lawfulB t p = true ∧ h = sumH t p ∧ ∀ q, lawfulB t q = true → h ≤ sumH t q := by
 obtain ⟨h1, h2, _⟩ := foldFound_spec _ _ _ hb
 rcases h1 with h1 | h1
 ·have := (mem_lawfulL hv).1 h1
  exact ⟨this.1, this.2, fun q hq => h2 (q, sumH t q) ((mem_lawfulL hv).2 ⟨hq, rfl⟩)⟩
 ·cases h1
end Go.Proofs.YtgolicoalldidaaGreat
namespace Go.Proofs.YtgolicoalldidaaGreat
open Go.RowKit
def allKids (c : List NodeD) : List Int := c.flatMap NodeD.kids
theorem allKids_append (a b : List NodeD) : allKids (a ++ b) = allKids a ++ allKids b := by simp [allKids]
theorem allKids_cons (a : NodeD) (b : List NodeD) : allKids (a :: b) = a.kids ++ allKids b := by simp [allKids]
def addC (l : List Int) (ps : List Int) : List Int := ps.mapIdx fun j v => v + (l.count (j : Int) : Nat)
theorem addC_len (l ps : List Int) : (addC l ps).length = ps.length := by simp [addC]
theorem addC_nil (ps : List Int) : addC [] ps = ps := by
 unfold addC
 apply List.ext_getElem? 
 intro i
 simp
theorem addC_add (a b ps : List Int) : addC b (addC a ps) = addC (a ++ b) ps := by
 unfold addC
 apply List.ext_getElem?
 intro i
 simp only [List.getElem?_mapIdx, List.count_append]
 cases ps[i]? <;> simp
 omega
theorem tickKids_ok {n i : Int} : ∀ {l ps : List Int}, (∀ k ∈ l, i < k ∧ k < n) → 0 ≤ i → tickKids n i l ps = some (addC l ps)
 | [], ps, _, _ => by rw [addC_nil]; rfl
 | k :: r, ps, h, hi => by
  have hk := h k List.mem_cons_self
  simp only [tickKids]
  rw [if_neg (by omega), tickKids_ok (fun k' hk' => h k' (List.mem_cons_of_mem _ hk')) hi]
  congr 1
  obtain ⟨m, rfl⟩ : ∃ m : Nat, k = m := ⟨k.toNat, by omega⟩
  have e : ps.set m (ps[m]?.getD 0 + 1) = addC [(m : Int)] ps := by
   unfold addC
   apply List.ext_getElem?
   intro j
   rw [List.getElem?_set, List.getElem?_mapIdx]
   by_cases hj : m = j
   ·subst hj
    by_cases hl : m < ps.length
    ·simp [hl]
    ·simp [hl]
   ·have hj' : ¬ (m : Int) = j := by omega
    rw [if_neg hj]
    cases ps[j]? <;> simp [hj']
  rw [Int.toNat_natCast, e, addC_add]
  rfl
theorem tickAll_ok {n : Int} : ∀ {c : List NodeD} {i : Int} {ps : List Int}, (∀ (j : Nat) (x : NodeD), c[j]? = some x → ∀ k ∈ x.kids, i + j < k ∧ k < n) → 0 ≤ i → tickAll n c i ps = some (addC (allKids c) ps)
 | [], i, ps, _, _ => by simp [tickAll, allKids, addC_nil]
 | x :: r, i, ps, h, hi => by
  simp only [tickAll]
  rw [tickKids_ok (fun k hk => by have := h 0 x rfl k hk; omega) hi]
  simp only
  rw [tickAll_ok (fun j y hy k hk => by have := h (j + 1) y (by simpa using hy) k hk; omega) (by omega), addC_add, allKids_cons]
theorem formed_of {c : List NodeD} (h0 : 0 < c.length) (h1 : c.length ≤ 65536) (h2 : ∀ (j : Nat) (x : NodeD), c[j]? = some x → ∀ k ∈ x.kids, (j : Int) < k ∧ k < c.length)
  (h3 : ∀ j : Nat, 1 ≤ j → j < c.length → (allKids c).count (j : Int) = 1) : formedB c = true := by
 unfold formedB
 rw [if_neg (by omega), tickAll_ok (fun j x hx k hk => by have := h2 j x hx k hk; omega) (Int.le_refl 0)]
 simp only [tickOk, Bool.not_eq_true', List.any_eq_false]
 intro v hv
 rw [List.mem_iff_getElem?] at hv
 obtain ⟨j, hj⟩ := hv
 rw [List.getElem?_drop] at hj
 have hlt := (List.getElem?_eq_some_iff.1 hj).1
 rw [addC_len, zerosL_len] at hlt
 unfold addC at hj
 rw [List.getElem?_mapIdx, show (zerosL c.length)[1 + j]? = some 0 by simp [zerosL, hlt]] at hj
 have := h3 (1 + j) (by omega) hlt
 simp only [Option.map_some, this, Option.some.injEq] at hj
 subst hj
 decide
theorem ite_out {c : Prop} [Decidable c] {x : Nat} (h : x = if c then 1 else 0) : (c ∧ x = 1) ∨ (¬ c ∧ x = 0) := by
 split at h
 ·exact Or.inl ⟨by assumption, h⟩
 ·exact Or.inr ⟨by assumption, h⟩
theorem ite_in {c : Prop} [Decidable c] {x : Nat} (h : (c ∧ x = 1) ∨ (¬ c ∧ x = 0)) : x = if c then 1 else 0 := by
 rcases h with ⟨h1, h2⟩ | ⟨h1, h2⟩
 ·rw [if_pos h1]; exact h2
 ·rw [if_neg h1]; exact h2
theorem kidsG_count {f : Int → OptD → Nat → Res} (hf : ∀ i o N, ∀ j : Int, (allKids (f i o N).nodes).count j = if (N : Int) + 1 ≤ j ∧ j < N + (f i o N).nodes.length then 1 else 0) (hp : ∀ i o N, 0 < (f i o N).nodes.length) :
  ∀ (l : List OptD) (i : Int) (N : Nat) (j : Int), (kidsG f l i N).kids.count j + (allKids (kidsG f l i N).nodes).count j = if (N : Int) ≤ j ∧ j < N + (kidsG f l i N).nodes.length then 1 else 0
 | [], i, N, j => ite_in (by simp [kidsG, allKids])
 | o :: r, i, N, j => by
  have h1 := ite_out (hf i o N j)
  have h2 := ite_out (kidsG_count hf hp r (i + 1) (N + (f i o N).nodes.length) j)
  have h3 := hp i o N
  refine ite_in ?_
  simp only [kidsG, allKids_append, List.count_append, List.length_append]
  generalize (allKids (f i o N).nodes).count j = X at *
  generalize (f i o N).nodes.length = m at *
  generalize (kidsG f r (i + 1) (N + m)).nodes.length = q at *
  generalize (allKids (kidsG f r (i + 1) (N + m)).nodes).count j = B at *
  by_cases e : (N : Int) = j
  ·rw [← e, List.count_cons_self]
   rw [← e] at h1 h2
   generalize (kidsG f r (i + 1) (N + m)).kids.count (N : Int) = A at *
   omega
  ·rw [List.count_cons_of_ne e]
   generalize (kidsG f r (i + 1) (N + m)).kids.count j = A at *
   omega
theorem growL_count (t : List WishD) (b : Int) : ∀ (l : List WishD) (pre : List Int) (harm : Int) (N : Nat) (j : Int),
  (allKids (growL t b l pre harm N).nodes).count j = if (N : Int) + 1 ≤ j ∧ j < N + (growL t b l pre harm N).nodes.length then 1 else 0
 | [], pre, harm, N, j => by
  refine ite_in ?_
  simp only [growL]
  (repeat' split) <;> exact Or.inr ⟨by dsimp only [List.length_cons, List.length_nil]; omega, rfl⟩
 | x :: r, pre, harm, N, j => by
  refine ite_in ?_
  simp only [growL]
  split
  ·exact Or.inr ⟨by dsimp only [List.length_cons, List.length_nil]; omega, rfl⟩
  ·split
   ·exact Or.inr ⟨by dsimp only [List.length_cons, List.length_nil]; omega, rfl⟩
   ·have := ite_out (kidsG_count (f := fun i o N' => growL t b r (pre ++ [i]) (harm + o.harm) N') (fun i o N' j => growL_count t b r _ _ N' j) (fun i o N' => growL_pos t b r _ _ N') x.opts 0 (N + 1) j)
    simp only [allKids_cons, List.count_append, List.length_cons] at this ⊢
    omega
theorem kidsG_kids {f : Int → OptD → Nat → Res} (hp : ∀ i o N, 0 < (f i o N).nodes.length) : ∀ (l : List OptD) (i : Int) (N : Nat), ∀ k ∈ (kidsG f l i N).kids, (N : Int) ≤ k ∧ k < N + (kidsG f l i N).nodes.length
 | [], i, N, k, hk => by cases hk
 | o :: r, i, N, k, hk => by
  have h3 := hp i o N
  simp only [kidsG, List.length_append] at hk ⊢
  rcases List.mem_cons.1 hk with rfl | hk
  ·omega
  ·have := kidsG_kids hp r (i + 1) _ k hk
   omega
theorem kidsG_in {f : Int → OptD → Nat → Res} (hf : ∀ i o N, ∀ (q : Nat) (x : NodeD), (f i o N).nodes[q]? = some x → ∀ k ∈ x.kids, (N : Int) + q < k ∧ k < N + (f i o N).nodes.length) :
  ∀ (l : List OptD) (i : Int) (N : Nat) (q : Nat) (x : NodeD), (kidsG f l i N).nodes[q]? = some x → ∀ k ∈ x.kids, (N : Int) + q < k ∧ k < N + (kidsG f l i N).nodes.length
 | [], i, N, q, x, hx, k, hk => by simp [kidsG] at hx
 | o :: r, i, N, q, x, hx, k, hk => by
  simp only [kidsG, List.length_append] at hx ⊢
  rw [List.getElem?_append] at hx
  split at hx
  ·have := hf i o N q x hx k hk
   omega
  ·have := kidsG_in hf r (i + 1) _ _ x hx k hk
   omega
theorem growL_in (t : List WishD) (b : Int) : ∀ (l : List WishD) (pre : List Int) (harm : Int) (N : Nat) (q : Nat) (x : NodeD),
  (growL t b l pre harm N).nodes[q]? = some x → ∀ k ∈ x.kids, (N : Int) + q < k ∧ k < N + (growL t b l pre harm N).nodes.length
 | [], pre, harm, N, q, x, hx, k, hk => by
  simp only [growL] at hx
  have hm := List.mem_of_getElem? hx
  (repeat' split at hm) <;> (simp [leafN] at hm; subst hm; cases hk)
 | y :: r, pre, harm, N, q, x, hx, k, hk => by
  simp only [growL] at hx ⊢
  split at hx
  ·have hm := List.mem_of_getElem? hx
   simp at hm; subst hm; cases hk
  ·split at hx
   ·have hm := List.mem_of_getElem? hx
    simp [leafN] at hm; subst hm; cases hk
   ·rename_i h1 h2
    rw [if_neg h1, if_neg h2]
    simp only [List.length_cons]
    cases q with
    | zero =>
     simp at hx
     subst hx
     have := kidsG_kids (f := fun i o N' => growL t b r (pre ++ [i]) (harm + o.harm) N') (fun i o N' => growL_pos t b r _ _ N') y.opts 0 (N + 1) k hk
     omega
    | succ q =>
     have := kidsG_in (f := fun i o N' => growL t b r (pre ++ [i]) (harm + o.harm) N') (fun i o N' q x hx => growL_in t b r _ _ N' q x hx) y.opts 0 (N + 1) q x (by simpa using hx) k hk
     omega
theorem growL_formed (t : List WishD) (b : Int) (h : treeMax t ≤ 65536) : formedB (growL t b t [] 0 0).nodes = true := by
 refine formed_of (growL_pos t b t [] 0 0) (Nat.le_trans (growL_len t b t [] 0 0) h) (fun j x hx k hk => ?_) (fun j h1 h2 => ?_)
 ·have := growL_in t b t [] 0 0 j x hx k hk
  omega
 ·rw [growL_count, if_pos (by omega)]
theorem lastClash_spec {t : List WishD} {pre : List Int} (h : 0 ≤ lastClash t pre) : ∃ i : Nat, lastClash t pre = i ∧ i + 1 < pre.length ∧ clashAt t pre i (pre.length - 1) = true := by
 unfold lastClash at h ⊢
 split at h
 ·omega
 ·rename_i h0
  rw [if_neg h0]
  unfold earlierI findI at h ⊢
  cases hf : (List.range (pre.length - 1)).findIdx? fun i => clashAt t pre i (pre.length - 1) with
  | none => rw [hf] at h; simp at h
  | some i =>
   rw [List.findIdx?_eq_some_iff_getElem] at hf
   obtain ⟨h1, h2, _⟩ := hf
   refine ⟨i, rfl, by simp at h1; omega, ?_⟩
   simpa using h2
def decOf (t : List WishD) (pre : List Int) : List Int := pre ++ List.replicate (t.length - pre.length) (-1)
theorem decOf_set {t : List WishD} {pre : List Int} (h : pre.length < t.length) (i : Int) : (decOf t pre).set pre.length i = decOf t (pre ++ [i]) := by
 unfold decOf
 obtain ⟨k, hk⟩ : ∃ k, t.length - pre.length = k + 1 := ⟨t.length - pre.length - 1, by omega⟩
 rw [hk, List.set_append_right _ _ (Nat.le_refl _), List.length_append, show t.length - (pre.length + [i].length) = k by simp; omega]
 simp [List.replicate_succ]
theorem decOf_at {t : List WishD} {pre : List Int} {j : Nat} (h : j < pre.length) : decAt (decOf t pre) j = pre[j]?.getD 0 := by
 simp [decAt, decOf, List.getElem?_append_left h]
theorem optOf_dec {t : List WishD} {pre : List Int} {j : Nat} (h : j < pre.length) : optOf t (decOf t pre) j = optOf t pre j := by
 simp [optOf, decOf, List.getElem?_append_left h]
theorem clashAt_dec {t : List WishD} {pre : List Int} {i j : Nat} (hi : i < pre.length) (hj : j < pre.length) : clashAt t (decOf t pre) i j = clashAt t pre i j := by
 simp [clashAt, optOf_dec hi, optOf_dec hj]
def Part (c : List NodeD) (N : Nat) (l : List NodeD) : Prop := ∀ q x, l[q]? = some x → c[N + q]? = some x
theorem Part.left {c : List NodeD} {N : Nat} {a b : List NodeD} (h : Part c N (a ++ b)) : Part c N a := fun q x hx => h q x (by rw [List.getElem?_append_left (List.getElem?_eq_some_iff.1 hx).1]; exact hx)
theorem Part.right {c : List NodeD} {N : Nat} {a b : List NodeD} (h : Part c N (a ++ b)) : Part c (N + a.length) b := fun q x hx => by
 have := h (a.length + q) x (by rw [List.getElem?_append_right (by omega)]; simpa using hx)
 rw [Nat.add_assoc]
 exact this
theorem kidsR_grow {c : List NodeD} {g : Int → Int → OptD → Bool} {f : Int → OptD → Nat → Res} {b : Int} {M : Nat} (hg : ∀ i o N, 0 ≤ i → (f i o N).nodes.length ≤ M → Part c N (f i o N).nodes → (∀ e ∈ (f i o N).ests, b ≤ e) → (∀ e ∈ (f i o N).opens, b ≤ e.2) → g i N o = true) :
  ∀ (l : List OptD) (i : Int) (N : Nat), 0 ≤ i → (kidsG f l i N).nodes.length ≤ M → Part c N (kidsG f l i N).nodes → (∀ e ∈ (kidsG f l i N).ests, b ≤ e) → (∀ e ∈ (kidsG f l i N).opens, b ≤ e.2) → kidsR g i (kidsG f l i N).kids l = true
 | [], i, N, _, _, _, _, _ => rfl
 | o :: r, i, N, h0, hM, hp, he, ho => by
  simp only [kidsG, List.length_append] at hM hp he ho ⊢
  simp only [kidsR, Bool.and_eq_true]
  exact ⟨hg i o N h0 (by omega) hp.left (fun e h => he e (List.mem_append_left _ h)) (fun e h => ho e (List.mem_append_left _ h)),
   kidsR_grow hg r (i + 1) _ (by omega) (by omega) hp.right (fun e h => he e (List.mem_append_right _ h)) (fun e h => ho e (List.mem_append_right _ h))⟩
theorem right_grow (t : List WishD) (b B : Int) (c : List NodeD) : ∀ (l : List WishD) (pre : List Int) (harm : Int) (N : Nat) (f : Nat), (growL t B l pre harm N).nodes.length ≤ f → t.drop pre.length = l → pre.length + l.length = t.length → (∀ k ∈ pre, 0 ≤ k) →
  Part c N (growL t B l pre harm N).nodes → (∀ e ∈ (growL t B l pre harm N).ests, b ≤ e) → (∀ e ∈ (growL t B l pre harm N).opens, b ≤ e.2) → rightP t b c f (decOf t pre) (leastSum l) N harm = true
 | l, pre, harm, N, 0, hf, _, _, _, _, _, _ => by have := growL_pos t B l pre harm N; omega
 | l, pre, harm, N, f + 1, hf, hd, hl, hpre, hp, he, ho => by
  have clash : ∀ hc : 0 ≤ lastClash t pre, c[N]? = some ⟨-1, [], lastClash t pre, (pre.length : Int) - 1⟩ → rightP t b c (f + 1) (decOf t pre) (leastSum l) N harm = true := by
   intro hc hn
   obtain ⟨i, e, h1, h2⟩ := lastClash_spec hc
   simp only [rightP, hn]
   rw [if_pos trivial]
   have e2 : (pre.length : Int) - 1 = ((pre.length - 1 : Nat) : Int) := by omega
   simp only [List.length_nil, beq_self_eq_true, Bool.true_and, closedB, e, e2]
   have i1 : idxB (i : Int) t.length = true := idxB_of_lt (by omega)
   have i2 : idxB ((pre.length - 1 : Nat) : Int) t.length = true := idxB_of_lt (by omega)
   rw [if_neg (by omega), if_neg (by rw [i1, i2]; simp; omega)]
   have d1 : 0 ≤ decAt (decOf t pre) i := by
    rw [decOf_at (by omega), List.getElem?_eq_getElem (by omega)]
    exact hpre _ (List.getElem_mem _)
   have d2 : 0 ≤ decAt (decOf t pre) ((pre.length - 1 : Nat) : Int) := by
    rw [decOf_at (by omega), List.getElem?_eq_getElem (by omega)]
    exact hpre _ (List.getElem_mem _)
   simp only [Int.toNat_natCast, d1, d2, decide_true, Bool.true_and]
   rw [clashAt_dec (by omega) (by omega)]
   exact h2
  have leaf : b ≤ harm + leastSum l → c[N]? = some leafN → rightP t b c (f + 1) (decOf t pre) (leastSum l) N harm = true := by
   intro hb hn
   simp only [rightP, hn, leafN]
   simp [closedB, hb]
  cases l with
  | nil =>
   simp only [growL] at hp he ho
   split at hp
   ·rename_i hc
    exact clash hc (by simpa using hp 0 _ rfl)
   ·rename_i hc
    split at hp
    ·rename_i hb
     rw [if_neg hc, if_pos hb] at he
     exact leaf (by have := he harm (by simp); simp [leastSum]; exact this) (by simpa using hp 0 _ rfl)
    ·rename_i hb
     rw [if_neg hc, if_neg hb] at ho
     exact leaf (by have := ho (pre, harm) (by simp); simp [leastSum]; exact this) (by simpa using hp 0 _ rfl)
  | cons x r =>
   simp only [growL] at hp he ho
   split at hp
   ·rename_i hc
    exact clash hc (by simpa using hp 0 _ rfl)
   ·rename_i hc
    split at hp
    ·rename_i hb
     rw [if_neg hc, if_pos hb] at he
     exact leaf (he _ (by simp)) (by simpa using hp 0 _ rfl)
    ·rename_i hb
     rw [if_neg hc, if_neg hb] at he ho
     have hn := hp 0 _ rfl
     rw [Nat.add_zero] at hn
     simp only [growL] at hf
     rw [if_neg hc, if_neg hb] at hf
     simp only [List.length_cons] at hl hf
     have hlt : pre.length < t.length := by omega
     have hx : t[pre.length]? = some x := by
      have := congrArg (fun l => l[0]?) hd
      simpa using this
     have hdn : t.drop (pre.length + 1) = r := by
      have := congrArg List.tail hd
      simpa using this
     simp only [rightP, hn]
     rw [if_neg (by omega), idxB_of_lt hlt]
     simp only [Int.toNat_natCast, hx]
     rw [if_neg (by simp)]
     have hdec : decAt (decOf t pre) (pre.length : Int) = -1 := by
      obtain ⟨k, hk⟩ : ∃ k, t.length - pre.length = k + 1 := ⟨t.length - pre.length - 1, by omega⟩
      simp [decAt, decOf, hk, List.replicate_succ]
     rw [if_neg (by rw [hdec, kidsG_kids_len]; simp)]
     refine kidsR_grow (c := c) (b := b) (M := f) (fun i o N' hi0 hM hpart he' ho' => ?_) x.opts 0 (N + 1) (Int.le_refl _) (by omega) (fun q y hy => ?_) he ho
     ·have h1 := right_grow t b B c r (pre ++ [i]) (harm + o.harm) N' f hM (by rw [List.length_append]; exact hdn) (by simp; omega) (fun k hk => by
       rcases List.mem_append.1 hk with h | h
       ·exact hpre k h
       ·simp at h; omega) hpart he' ho'
      rw [decOf_set hlt, show leastSum (x :: r) - leastB x = leastSum r by simp [leastSum], Int.toNat_natCast]
      exact h1
     ·have := hp (q + 1) y (by simpa using hy)
      rw [show N + (q + 1) = N + 1 + q by omega] at this
      exact this
theorem check_grow {t : List WishD} {b B : Int} (hv : validT t = 0) (hm : treeMax t ≤ 65536) (he : ∀ e ∈ (growL t B t [] 0 0).ests, b ≤ e) (ho : ∀ e ∈ (growL t B t [] 0 0).opens, b ≤ e.2) :
  checkT t b (growL t B t [] 0 0).nodes = 0 := by
 unfold checkT
 rw [if_neg (by simp [hv]), if_neg (by rw [growL_formed t B hm]; simp)]
 have h := right_grow t b B (growL t B t [] 0 0).nodes t [] 0 0 _ (Nat.le_refl _) rfl (by simp) (by simp) (fun q x hx => by rw [Nat.zero_add]; exact hx) he ho
 simp only [decOf, List.nil_append, List.length_nil, Nat.sub_zero] at h
 rw [if_pos h]
theorem cert_small {t : List WishD} {p : List Int} {h b : Int} (hv : validT t = 0) (hm : treeMax t ≤ 65536) (hb : bestOf t = some (p, h)) (hle : b ≤ h) : checkT t b (growL t h t [] 0 0).nodes = 0 := by
 refine check_grow hv hm (fun e he => ?_) (fun e he => ?_)
 ·have := (growL_ests t h t (harms_of hv) [] 0 0 e he).1
  omega
 ·rw [opens_lawful, List.mem_filter] at he
  have h1 := (mem_lawfulL hv).1 he.1
  have h2 := (bestOf_spec hv hb).2.2 e.1 h1.1
  have h3 := h1.2
  simp at he
  omega
theorem kidsG_opts {f : Int → OptD → Nat → Res} {m : Nat} (hf : ∀ i o N, ∀ n ∈ (f i o N).nodes, n.kids.length ≤ m) : ∀ (l : List OptD) (i : Int) (N : Nat), ∀ n ∈ (kidsG f l i N).nodes, n.kids.length ≤ m
 | [], _, _, n, hn => by cases hn
 | o :: r, i, N, n, hn => by
  simp only [kidsG, List.mem_append] at hn
  rcases hn with h | h
  ·exact hf i o N n h
  ·exact kidsG_opts hf r _ _ n h
theorem growL_kids (t : List WishD) (b : Int) (m : Nat) : ∀ (l : List WishD), (∀ x ∈ l, x.opts.length ≤ m) → ∀ (pre : List Int) (harm : Int) (N : Nat), ∀ n ∈ (growL t b l pre harm N).nodes, n.kids.length ≤ m
 | [], _, pre, harm, N, n, hn => by
  simp only [growL] at hn
  (repeat' split at hn) <;> (simp [leafN] at hn; subst hn; simp)
 | x :: r, h, pre, harm, N, n, hn => by
  simp only [growL] at hn
  split at hn
  ·simp at hn; subst hn; simp
  ·split at hn
   ·simp [leafN] at hn; subst hn; simp
   ·rcases List.mem_cons.1 hn with rfl | hn
    ·simp only [kidsG_kids_len]; exact h x List.mem_cons_self
    ·exact kidsG_opts (f := fun i o N' => growL t b r (pre ++ [i]) (harm + o.harm) N') (fun i o N' n hn => growL_kids t b m r (fun y hy => h y (List.mem_cons_of_mem _ hy)) _ _ N' n hn) x.opts 0 (N + 1) n hn
end Go.Proofs.YtgolicoalldidaaGreat
namespace Go.Proofs.YtgolicoalldidaaGreat
open Go.RowKit
def LexB : List Int → List Int → Prop
 | a :: ar, b :: br => a < b ∨ (a = b ∧ LexB ar br)
 | _, _ => False
end Go.Proofs.YtgolicoalldidaaGreat
namespace Go.Proofs.YtgolicoalldidaaGreat
open Go.RowKit
def RawsOk (l : List RawD) : Prop := ∀ x ∈ l, byteB x.people ∧ ∀ y ∈ x.opts, OctOk y
theorem Raws.ok {w : World} {v : Value} {l : List RawD} (h : Raws w v l) : RawsOk l := by
 obtain ⟨S, _, h2⟩ := h
 intro x hx
 obtain ⟨i, hi⟩ := List.mem_iff_getElem?.1 hx
 have hlt := (List.getElem?_eq_some_iff.1 hi).1
 have := h2 i hlt
 rw [hi] at this
 exact ⟨this.2, this.1.2⟩
theorem spansT_ok {x : Oct} (h : OctOk x) : normalB (spansT x) = true ∧ (spansT x).length ≤ 2 := by
 obtain ⟨a, b, c, d⟩ := x
 obtain ⟨_, _, ⟨hc0, hc1⟩, ⟨hd0, hd1⟩⟩ := h
 dsimp only at hc0 hc1 hd0 hd1
 have f0 : 0 ≤ fromT ⟨a, b, c, d⟩ ∧ fromT ⟨a, b, c, d⟩ ≤ 165 := by simp only [fromT]; omega
 simp only [spansT]
 generalize fromT ⟨a, b, c, d⟩ = f at f0 ⊢
 have m0 : 0 ≤ d % 8 := by omega
 have m1 : d % 8 ≤ 7 := by omega
 generalize d % 8 = m at m0 m1 ⊢
 by_cases h1 : 0 < m <;> by_cases h2 : 128 ≤ d <;> simp [h1, h2, normalB, chainB, rangedB, farB] <;> omega
theorem optT_ok {x : Oct} (h : OctOk x) : optOkB (optT x) = true := by
 have hs := (spansT_ok h).1
 obtain ⟨a, b, c, d⟩ := x
 obtain ⟨⟨ha0, ha1⟩, ⟨hb0, hb1⟩, _, _⟩ := h
 dsimp only at ha0 ha1 hb0 hb1
 have h1 : 0 ≤ a % 6 ∧ a % 6 ≤ 1000000 ∧ -1 ≤ b % 4 - 1 ∧ b % 4 - 1 < 256 := by omega
 simp only [optOkB, optT] at hs ⊢
 simp [hs, h1]
theorem peopleB_of : ∀ (l : List Int) (p : Option Int), (∀ x ∈ l, 0 ≤ x ∧ x < 512) → (match p with | none => True | some e => ∀ x ∈ l, e < x) → l.Pairwise (· < ·) → peopleB p l = true
 | [], _, _, _, _ => rfl
 | x :: r, p, h, hp, hs => by
  have hx := h x List.mem_cons_self
  rw [List.pairwise_cons] at hs
  have ih := peopleB_of r (some x) (fun y hy => h y (List.mem_cons_of_mem _ hy)) hs.1 hs.2
  simp only [peopleB, ih, Bool.and_true, Bool.and_eq_true, decide_eq_true_eq]
  refine ⟨hx, ?_⟩
  cases p with
  | none => rfl
  | some e => simpa using hp x List.mem_cons_self
theorem peopleTo_ok (n : Int) : peopleB none (peopleTo n 5) = true ∧ (peopleTo n 5).length ≤ 5 := by
 refine ⟨peopleB_of _ none ?_ trivial ?_, peopleTo_len n 5⟩
 ·intro x hx
  simp only [peopleTo, List.mem_map, List.mem_filter, List.mem_range] at hx
  obtain ⟨k, ⟨hk, _⟩, rfl⟩ := hx
  omega
 ·unfold peopleTo
  rw [List.pairwise_map]
  exact (List.Pairwise.filter _ List.pairwise_lt_range).imp fun h => by omega
theorem wishT_opts {i : Nat} {x : RawD} (hi : i < 4) (h : ∀ y ∈ x.opts, OctOk y) : (∀ o ∈ (wishT i x).opts, ∃ y, OctOk y ∧ o = optT y) ∧ 0 < (wishT i x).opts.length ∧ (wishT i x).opts.length ≤ 4 := by
 simp only [wishT]
 split
 ·rename_i h0
  refine ⟨?_, by simp, by simp⟩
  intro o ho
  simp at ho
  subst ho
  exact ⟨⟨0, 1, i, 3⟩, by constructor <;> constructor <;> dsimp only <;> omega, rfl⟩
 ·rename_i h0
  refine ⟨?_, by simp; omega, by simp; omega⟩
  intro o ho
  rw [List.mem_map] at ho
  obtain ⟨y, hy, rfl⟩ := ho
  exact ⟨y, h y (List.mem_of_mem_take hy), rfl⟩
theorem wishT_ok {i : Nat} {x : RawD} (hi : i < 4) (h : ∀ y ∈ x.opts, OctOk y) : wishOkB (wishT i x) = true := by
 obtain ⟨h1, h2, _⟩ := wishT_opts hi h
 have hp := (peopleTo_ok x.people).1
 have ho : (wishT i x).opts.all optOkB = true := by
  rw [List.all_eq_true]
  intro o ho
  obtain ⟨y, hy, rfl⟩ := h1 o ho
  exact optT_ok hy
 have e1 : (wishT i x).people = peopleTo x.people 5 := rfl
 have e2 : (wishT i x).meeting = 10 + (i : Int) := rfl
 simp only [wishOkB, e1, e2, hp, ho, Bool.and_true, Bool.true_and, Bool.and_eq_true, decide_eq_true_eq]
 omega
theorem madeFrom_ok : ∀ (l : List RawD) (i : Nat) (p : Option Int), RawsOk l → (match p with | none => True | some e => e < 10 + (i : Int)) → wishesB p (madeFrom i l) = true
 | [], _, _, _, _ => rfl
 | x :: r, i, p, h, hp => by
  by_cases hi : i < 4
  ·rw [madeFrom_step hi]
   have h1 := wishT_ok hi (h x List.mem_cons_self).2
   have ih := madeFrom_ok r (i + 1) (some (10 + (i : Int))) (fun y hy => h y (List.mem_cons_of_mem _ hy)) (by dsimp only; omega)
   have e2 : (wishT i x).meeting = 10 + (i : Int) := rfl
   simp only [wishesB, h1, e2, ih, Bool.and_true, Bool.true_and]
   cases p with
   | none => rfl
   | some e => simpa using hp
  ·rw [madeFrom_stop hi]; rfl
theorem madeFrom_len : ∀ (l : List RawD) (i : Nat), (madeFrom i l).length ≤ 4 - i
 | [], _ => by simp [madeFrom]
 | x :: r, i => by
  by_cases hi : i < 4
  ·rw [madeFrom_step hi]
   have := madeFrom_len r (i + 1)
   simp only [List.length_cons]
   omega
  ·rw [madeFrom_stop hi]; simp
theorem madeFrom_mem : ∀ {l : List RawD} {i : Nat} {x : WishD}, x ∈ madeFrom i l → ∃ j y, j < 4 ∧ y ∈ l ∧ x = wishT j y
 | [], _, x, h => by cases h
 | y :: r, i, x, h => by
  by_cases hi : i < 4
  ·rw [madeFrom_step hi] at h
   rcases List.mem_cons.1 h with rfl | h
   ·exact ⟨i, y, hi, List.mem_cons_self, rfl⟩
   ·obtain ⟨j, z, h1, h2, h3⟩ := madeFrom_mem h
    exact ⟨j, z, h1, List.mem_cons_of_mem _ h2, h3⟩
  ·rw [madeFrom_stop hi] at h; cases h
theorem made_opts {l : List RawD} (h : RawsOk l) {x : WishD} (hx : x ∈ madeT l) : 0 < x.opts.length ∧ x.opts.length ≤ 4 ∧ x.people.length ≤ 5 ∧ ∀ o ∈ x.opts, o.spans.length ≤ 2 ∧ o.harm ≤ 5 := by
 unfold madeT at hx
 split at hx
 ·simp at hx
  subst hx
  simp
 ·obtain ⟨j, y, h1, h2, rfl⟩ := madeFrom_mem hx
  obtain ⟨a, b, c⟩ := wishT_opts h1 (h y h2).2
  refine ⟨b, c, (peopleTo_ok y.people).2, fun o ho => ?_⟩
  obtain ⟨z, hz, rfl⟩ := a o ho
  refine ⟨(spansT_ok hz).2, ?_⟩
  simp only [optT]
  omega
theorem made_len {l : List RawD} : 0 < (madeT l).length ∧ (madeT l).length ≤ 4 := by
 unfold madeT
 split
 ·simp
 ·have := madeFrom_len l 0
  refine ⟨?_, by omega⟩
  cases l with
  | nil => simp at *
  | cons x r => simp [madeFrom]
theorem made_valid {l : List RawD} (h : RawsOk l) : validT (madeT l) = 0 := by
 have hlen := made_len (l := l)
 have hbig : tooLargeB (madeT l) = false := by
  simp only [tooLargeB, Bool.or_eq_false_iff, decide_eq_false_iff_not, List.any_eq_false]
  refine ⟨by omega, fun x hx => ?_⟩
  obtain ⟨h1, h2, h3, h4⟩ := made_opts h hx
  simp only [Bool.or_eq_true, decide_eq_true_eq, List.any_eq_true, not_or, not_exists, not_and]
  refine ⟨⟨by omega, by omega⟩, fun o ho => ?_⟩
  have := (h4 o ho).1
  omega
 have hok : wishesB none (madeT l) = true := by
  unfold madeT
  split
  ·decide
  ·exact madeFrom_ok l 0 none h trivial
 unfold validT
 rw [hbig, hok]
 simp
 intro he
 rw [he] at hlen
 simp at hlen
def fourTree : Nat → Nat
 | 0 => 1
 | n + 1 => 1 + 4 * fourTree n
theorem treeMax_le : ∀ (l : List WishD), (∀ x ∈ l, x.opts.length ≤ 4) → treeMax l ≤ fourTree l.length
 | [], _ => by simp [treeMax, fourTree]
 | x :: r, h => by
  have h1 := treeMax_le r fun y hy => h y (List.mem_cons_of_mem _ hy)
  have h2 := h x List.mem_cons_self
  have h3 : x.opts.length * treeMax r ≤ 4 * treeMax r := Nat.mul_le_mul_right _ h2
  simp only [treeMax, List.length_cons, fourTree]
  omega
theorem tree_four {l : List WishD} (h : ∀ x ∈ l, x.opts.length ≤ 4) (hl : l.length ≤ 4) : treeMax l ≤ 341 := by
 have h1 := treeMax_le l h
 have : ∀ n, n ≤ 4 → fourTree n ≤ 341 := by decide
 have := this _ hl
 omega
theorem made_tree {l : List RawD} (h : RawsOk l) : treeMax (madeT l) ≤ 341 := tree_four (fun _ hx => (made_opts h hx).2.1) made_len.2
end Go.Proofs.YtgolicoalldidaaGreat
namespace Go.Proofs.YtgolicoalldidaaGreat
open Go.RowKit
def Bytes (w : World) (v : Value) (l : List Int) : Prop := Sl w 1 v l.length (fun i _ => .int .u8 (l[i]?.getD 0)) ∧ ∀ x ∈ l, byteB x
def BytesAt (a : Option Addr) (w : World) (l : List Int) : Prop :=
 ∀ i, i < l.length → ∀ W, Ext w W → ∃ b off x, a = some ⟨b, off, none⟩ ∧ b < W.heap.size ∧ Hid (l[i]? = some x) ∧ 0 ≤ x ∧ x ≤ 255 ∧ W.cell? ⟨b, off + i, none⟩ = some (.int .u8 x)
theorem Bytes.open {w : World} {v : Value} {l : List Int} (h : Bytes w v l) :
  ∃ a c, v = .slice a l.length c ∧ l.length ≤ c ∧ c ≤ 9223372036854775807 ∧ BytesAt a w l := by
 obtain ⟨h, hb⟩ := h
 obtain ⟨a, c, hv, hn, hc, h⟩ := Sl.open h
 refine ⟨a, c, hv, hn, hc, fun i hi W e => ?_⟩
 obtain ⟨b, off, ha, hbl, h⟩ := h i hi
 have ex : l[i]? = some l[i] := List.getElem?_eq_getElem hi
 have hx := hb l[i] (List.getElem_mem hi)
 refine ⟨b, off, l[i], ha, Nat.lt_of_lt_of_le hbl e.size, ex, hx.1, hx.2, ?_⟩
 have := h W e 0 (by omega)
 simpa [ex] using this
theorem best_out {t : List WishD} {w w' : World} {e : Ending} (hv : validT t = 0) (h : BestOut t w e w') :
  (lawfulL t = [] ∧ e = .returned (.tuple #[.agg #[.slice none 0 0, .int .i64 0], .slice none 0 0, .int .i64 4]) ∧ Ext w w') ∨
  ∃ pv cv p h, bestOf t = some (p, h) ∧ e = .returned (.tuple #[.agg #[pv, .int .i64 h], cv, .int .i64 0]) ∧ Ext w w' ∧ Ints w' pv p ∧ Nodes w' cv (growL t h t [] 0 0).nodes := by
 obtain ⟨pv, cv, er, rfl, hx, h⟩ := h
 rcases h with ⟨h, _⟩ | ⟨_, ⟨b, h1, h2⟩, rfl, rfl, rfl⟩ | ⟨_, p, q, ⟨b, hb⟩, hp, hc, rfl⟩
 ·exact absurd hv h
 ·exact Or.inl ⟨bestRes_none h1 h2, rfl, hx⟩
 ·exact Or.inr ⟨pv, cv, p, q, (bestRes_some hb).1, rfl, hx, hp, hc⟩
end Go.Proofs.YtgolicoalldidaaGreat
namespace Go.Proofs.YtgolicoalldidaaGreat
open Go.RowKit
def insL : List Int → Int → List Int
 | [], x => [x]
 | y :: r, x => if y < x then y :: insL r x else if y = x then y :: r else x :: y :: r
theorem insL_len : ∀ (l : List Int) (x : Int), (insL l x).length ≤ l.length + 1
 | [], x => by simp [insL]
 | y :: r, x => by
  have := insL_len r x
  unfold insL
  split
  ·simp; omega
  ·split <;> simp
end Go.Proofs.YtgolicoalldidaaGreat
namespace Go.Proofs.YtgolicoalldidaaGreat
open Go.RowKit
def insAll (l : List (Int × Int)) : List Int := l.foldl (fun o s => insL (insL o s.1) s.2) []
theorem insAll_len (l : List (Int × Int)) : (insAll l).length ≤ 2 * l.length := by
 suffices h : ∀ (l : List (Int × Int)) (o : List Int), (l.foldl (fun o s => insL (insL o s.1) s.2) o).length ≤ o.length + 2 * l.length by
  have := h l []; simpa [insAll] using this
 intro l
 induction l with
 | nil => intro o; simp
 | cons s r ih =>
  intro o
  rw [List.foldl_cons, List.length_cons]
  have h1 := ih (insL (insL o s.1) s.2)
  have h2 := insL_len (insL o s.1) s.2
  have h3 := insL_len o s.1
  omega
theorem spanCells_app (a b : List (Int × Int)) : spanCells (a ++ b) = spanCells a ++ spanCells b := by simp [spanCells]
end Go.Proofs.YtgolicoalldidaaGreat
namespace Go.Proofs.YtgolicoalldidaaGreat
open Go.RowKit
def combStep (out : List (Int × Int)) (x y : Int) : List (Int × Int) :=
 match out.getLast? with
 | none => out ++ [(x, y)]
 | some s => if s.2 = x then out.set (out.length - 1) (s.1, y) else out ++ [(x, y)]
def combTo (k : Int) (a b : List (Int × Int)) (p : List Int) : Nat → List (Int × Int)
 | 0 => []
 | i + 1 => if inB k (hasB a (p[i]?.getD 0)) (hasB b (p[i]?.getD 0)) then combStep (combTo k a b p i) (p[i]?.getD 0) (p[i + 1]?.getD 0) else combTo k a b p i
def combL (k : Int) (a b : List (Int × Int)) : List (Int × Int) := combTo k a b (insAll (a ++ b)) ((insAll (a ++ b)).length - 1)
section
variable {k : Int} {a b : List (Int × Int)} {p : List Int} {i : Nat} {x y : Int}
theorem combStep_nil {out : List (Int × Int)} (h : out.length = 0) : combStep out x y = out ++ [(x, y)] := by
 rw [List.length_eq_zero_iff] at h; subst h; rfl
theorem combStep_far {out : List (Int × Int)} {u v : Int} {n : Nat} (hn : out.length = n + 1) (h : out[n]? = some (u, v)) (hne : v ≠ x) : combStep out x y = out ++ [(x, y)] := by
 rw [combStep, List.getLast?_eq_getElem?, hn, Nat.add_sub_cancel, h]; simp [hne]
theorem combStep_on {out : List (Int × Int)} {u v : Int} {n : Nat} (hn : out.length = n + 1) (h : out[n]? = some (u, v)) (he : v = x) : combStep out x y = out.set n (u, y) := by
 rw [combStep, List.getLast?_eq_getElem?, hn, Nat.add_sub_cancel, h]; simp [he]
end
theorem spanCells_set {y : Int} : ∀ {l : List (Int × Int)} {n : Nat} {u v : Int}, l[n]? = some (u, v) → spanCells (l.set n (u, y)) = (spanCells l).set (n * 2 + 1) (.int .i64 y)
 | [], _, _, _, h => by simp at h
 | s :: r, 0, u, v, h => by simp at h; subst h; rfl
 | s :: r, n + 1, u, v, h => by
  have := spanCells_set (y := y) (l := r) (n := n) (u := u) (v := v) (by simpa using h)
  rw [show (n + 1) * 2 + 1 = (n * 2 + 1) + 1 + 1 by omega]
  show [_, _] ++ spanCells (r.set n (u, y)) = _
  rw [this]; rfl
theorem SpansO.last {w : World} {B g n c : Nat} {l : List (Int × Int)} {u v y : Int} (h : SpansO w B (.slice (some ⟨g, 0, none⟩) l.length c) l) (e : l[n]? = some (u, v)) :
  SpansO (w.setCell ⟨g, n * 2 + 1, none⟩ (.int .i64 y)) B (.slice (some ⟨g, 0, none⟩) (l.set n (u, y)).length c) (l.set n (u, y)) := by
 unfold SpansO
 rw [spanCells_set e, List.length_set]
 exact (World.ownsRow.stored h (n * 2 + 1) (.int .i64 y)).1
theorem SpansO.push {w1 : World} {B n : Nat} {v1 : Value} {l : List (Int × Int)} {x y : Int} (hn : n = l.length) (hown : w1.ownsRow B 111 2 v1 (n + 1) (spanCells l ++ [.int .i64 x, .int .i64 y])) : SpansO w1 B v1 (l ++ [(x, y)]) := by
 unfold SpansO
 rw [List.length_append, spanCells_app, ← hn]
 exact hown
theorem two_int (x y : Int) : ∀ u ∈ [Value.int .i64 x, .int .i64 y], u.oneCell' = true := by intro u hu; simp at hu; rcases hu with rfl | rfl <;> rfl
theorem owns_pos {w : World} {base : Nat} {e : TypeId} {size n : Nat} {v : Value} {xs : List Value} (h : w.ownsRow base e size v n xs) (h0 : 0 < n) : ∃ g c, v = .slice (some ⟨g, 0, none⟩) n c := by
 rcases h.2 with ⟨_, h1⟩ | ⟨g, cap, cur, rfl, _⟩
 ·omega
 ·exact ⟨_, _, rfl⟩
end Go.Proofs.YtgolicoalldidaaGreat
namespace Go.Proofs.YtgolicoalldidaaGreat
open Go.RowKit
theorem mem_insL {z x : Int} : ∀ {l : List Int}, z ∈ insL l x ↔ z = x ∨ z ∈ l
 | [] => by simp [insL]
 | y :: r => by
  rw [insL]
  split
  ·rw [List.mem_cons, mem_insL, List.mem_cons]
   constructor
   ·rintro (h | h | h) <;> simp [h]
   ·rintro (h | h | h) <;> simp [h]
  ·split
   ·next h => subst h; simp
   ·simp
theorem insL_sorted {x : Int} : ∀ {l : List Int}, l.Pairwise (· < ·) → (insL l x).Pairwise (· < ·)
 | [], _ => by simp [insL]
 | y :: r, h => by
  rw [List.pairwise_cons] at h
  rw [insL]
  split
  ·next hy =>
   rw [List.pairwise_cons]
   refine ⟨fun z hz => ?_, insL_sorted h.2⟩
   rcases mem_insL.1 hz with rfl | hz
   ·exact hy
   ·exact h.1 z hz
  ·split
   ·exact List.pairwise_cons.2 h
   ·rw [List.pairwise_cons]
    refine ⟨fun z hz => ?_, List.pairwise_cons.2 h⟩
    rcases List.mem_cons.1 hz with rfl | hz
    ·omega
    ·have := h.1 z hz; omega
theorem insAll_sorted (l : List (Int × Int)) : (insAll l).Pairwise (· < ·) := by
 suffices h : ∀ (l : List (Int × Int)) (o : List Int), o.Pairwise (· < ·) → (l.foldl (fun o s => insL (insL o s.1) s.2) o).Pairwise (· < ·) from h l [] List.Pairwise.nil
 intro l
 induction l with
 | nil => intro o h; exact h
 | cons s r ih => intro o h; exact ih _ (insL_sorted (insL_sorted h))
theorem mem_insAll {s : Int × Int} {l : List (Int × Int)} (h : s ∈ l) : s.1 ∈ insAll l ∧ s.2 ∈ insAll l := by
 have keep : ∀ (l : List (Int × Int)) (o : List Int) (z : Int), z ∈ o → z ∈ l.foldl (fun o s => insL (insL o s.1) s.2) o := by
  intro l
  induction l with
  | nil => intro o z h; exact h
  | cons s r ih => intro o z h; exact ih _ z (mem_insL.2 (Or.inr (mem_insL.2 (Or.inr h))))
 suffices g : ∀ (l : List (Int × Int)) (o : List Int), s ∈ l → s.1 ∈ l.foldl (fun o s => insL (insL o s.1) s.2) o ∧ s.2 ∈ l.foldl (fun o s => insL (insL o s.1) s.2) o from g l [] h
 intro l
 induction l with
 | nil => intro o h; simp at h
 | cons t r ih =>
  intro o h
  rcases List.mem_cons.1 h with rfl | h
  ·exact ⟨keep r _ _ (mem_insL.2 (Or.inr (mem_insL.2 (Or.inl rfl)))), keep r _ _ (mem_insL.2 (Or.inl rfl))⟩
  ·exact ih _ h
theorem combStep_pos (out : List (Int × Int)) (x y : Int) : 0 < (combStep out x y).length := by
 unfold combStep
 split
 ·simp
 ·next s hs =>
  split
  ·rw [List.length_set]
   cases out with
   | nil => simp at hs
   | cons a b => simp
  ·simp
theorem combTo_pos {k : Int} {a b : List (Int × Int)} {p : List Int} : ∀ {n : Nat}, 0 < (combTo k a b p n).length ↔ ∃ j, j < n ∧ inB k (hasB a (p[j]?.getD 0)) (hasB b (p[j]?.getD 0)) = true
 | 0 => by simp [combTo]
 | n + 1 => by
  rw [combTo]
  split
  ·next h => exact ⟨fun _ => ⟨n, by omega, h⟩, fun _ => combStep_pos _ _ _⟩
  ·next h =>
   rw [combTo_pos]
   constructor
   ·rintro ⟨j, hj, hh⟩; exact ⟨j, by omega, hh⟩
   ·rintro ⟨j, hj, hh⟩
    refine ⟨j, ?_, hh⟩
    rcases Nat.lt_succ_iff_lt_or_eq.1 hj with h1 | rfl
    ·exact h1
    ·exact absurd hh h
theorem hasB_iff {l : List (Int × Int)} {t : Int} : hasB l t = true ↔ ∃ s ∈ l, s.1 ≤ t ∧ t < s.2 := by simp [hasB, List.any_eq_true]
theorem meetB_iff {a b : List (Int × Int)} : meetB a b = true ↔ ∃ x ∈ a, ∃ y ∈ b, x.1 < y.2 ∧ y.1 < x.2 := by simp [meetB, List.any_eq_true]
theorem comb_meet {a b : List (Int × Int)} (ha : ∀ s ∈ a, s.1 < s.2) (hb : ∀ s ∈ b, s.1 < s.2) : decide (0 < (combL 1 a b).length) = meetB a b := by
 rw [Bool.eq_iff_iff, decide_eq_true_iff, meetB_iff, combL, combTo_pos]
 have hin : ∀ u v : Bool, inB 1 u v = (u && v) := by intro u v; simp [inB]
 simp only [hin, Bool.and_eq_true, hasB_iff]
 constructor
 ·rintro ⟨j, _, ⟨x, hx, h1, h2⟩, ⟨y, hy, h3, h4⟩⟩
  exact ⟨x, hx, y, hy, by omega, by omega⟩
 ·rintro ⟨x, hx, y, hy, h1, h2⟩
  have hx0 := ha x hx
  have hy0 := hb y hy
  have mx := mem_insAll (List.mem_append_left b hx)
  have my := mem_insAll (List.mem_append_right a hy)
  have hs := insAll_sorted (a ++ b)
  generalize insAll (a ++ b) = p at mx my hs
  have hm : ∃ t ∈ p, x.1 ≤ t ∧ t < x.2 ∧ y.1 ≤ t ∧ t < y.2 := by
   by_cases h : x.1 ≤ y.1
   ·exact ⟨y.1, my.1, h, h2, Int.le_refl _, hy0⟩
   ·exact ⟨x.1, mx.1, Int.le_refl _, hx0, by omega, h1⟩
  obtain ⟨t, ht, t1, t2, t3, t4⟩ := hm
  obtain ⟨i, hi, rfl⟩ := List.mem_iff_getElem.1 ht
  obtain ⟨j, hj, hjx⟩ := List.mem_iff_getElem.1 mx.2
  rw [List.pairwise_iff_getElem] at hs
  have hij : i < j := by
   rcases Nat.lt_trichotomy i j with h | h | h
   ·exact h
   ·subst h; omega
   ·have := hs j i hj hi h; omega
  refine ⟨i, by omega, ?_⟩
  rw [List.getElem?_eq_getElem hi, Option.getD_some]
  exact ⟨⟨x, hx, t1, t2⟩, ⟨y, hy, t3, t4⟩⟩
end Go.Proofs.YtgolicoalldidaaGreat
