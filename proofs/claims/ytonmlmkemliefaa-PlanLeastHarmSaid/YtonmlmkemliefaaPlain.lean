/- The plain law of the standard tree: its open leaves are the lawful choices with less harm than the bound, in lexicographic order. -/
import Derived.Test.YtonmlmkemliefaaGrowB
namespace Go.Proofs.Ytonmlmkemliefaa
open Go.RowKit

def kidsC (f : Int → OptD → List (List Int × Int)) : List OptD → Int → List (List Int × Int)
  | [], _ => []
  | o :: r, i => f i o ++ kidsC f r (i + 1)
/-- all choices that go on from pre, in order, with their harm -/
def choicesL : List WishD → List Int → Int → List (List Int × Int)
  | [], pre, harm => [(pre, harm)]
  | x :: r, pre, harm => kidsC (fun i o => choicesL r (pre ++ [i]) (harm + o.harm)) x.opts 0
/-- no clash from position k on -/
def okFrom (t : List WishD) (k : Nat) (p : List Int) : Bool := (List.range p.length).all fun d => decide (d < k) || decide (earlierI t p d < 0)
def goodC (t : List WishD) (b : Int) (k : Nat) (c : List Int × Int) : Bool := okFrom t k c.1 && decide (c.2 < b)

theorem kidsC_mem {f : Int → OptD → List (List Int × Int)} {c : List Int × Int} : ∀ {l : List OptD} {i : Int}, c ∈ kidsC f l i → ∃ j o, o ∈ l ∧ c ∈ f j o
  | [], _, h => by cases h
  | o :: r, i, h => by
    simp only [kidsC, List.mem_append] at h
    rcases h with h | h
    · exact ⟨i, o, List.mem_cons_self, h⟩
    · obtain ⟨j, o', h1, h2⟩ := kidsC_mem h
      exact ⟨j, o', List.mem_cons_of_mem _ h1, h2⟩
theorem choicesL_pre {c : List Int × Int} : ∀ {l : List WishD} {pre : List Int} {harm : Int}, c ∈ choicesL l pre harm → ∃ s, c.1 = pre ++ s ∧ s.length = l.length
  | [], pre, harm, h => by simp [choicesL] at h; exact ⟨[], by rw [h]; simp, rfl⟩
  | x :: r, pre, harm, h => by
    obtain ⟨j, o, _, h2⟩ := kidsC_mem h
    obtain ⟨s, e, hs⟩ := choicesL_pre h2
    exact ⟨j :: s, by rw [e]; simp, by simp [hs]⟩
theorem leastN_le : ∀ (l : List OptD) (n : Int), leastN l n ≤ n ∧ ∀ o ∈ l, leastN l n ≤ o.harm
  | [], n => ⟨Int.le_refl _, fun _ h => by cases h⟩
  | x :: r, n => by
    obtain ⟨h1, h2⟩ := leastN_le r (min n x.harm)
    show leastN r (min n x.harm) ≤ n ∧ _
    refine ⟨by omega, fun o ho => ?_⟩
    show leastN r (min n x.harm) ≤ o.harm
    rcases List.mem_cons.1 ho with rfl | ho
    · omega
    · exact h2 o ho
theorem choicesL_harm {c : List Int × Int} : ∀ {l : List WishD} {pre : List Int} {harm : Int}, c ∈ choicesL l pre harm → harm + leastSum l ≤ c.2
  | [], pre, harm, h => by simp [choicesL] at h; rw [h]; simp [leastSum]
  | x :: r, pre, harm, h => by
    obtain ⟨j, o, ho, h2⟩ := kidsC_mem h
    have h3 := choicesL_harm h2
    have h4 : leastB x ≤ o.harm := (leastN_le x.opts 1000000).2 o ho
    simp only [leastSum]
    omega
theorem kidsG_opens (g : (List Int × Int) → Bool) {f : Int → OptD → Nat → Res} {h : Int → OptD → List (List Int × Int)} (hf : ∀ i o N, (f i o N).opens = (h i o).filter g) : ∀ (l : List OptD) (i : Int) (N : Nat), (kidsG f l i N).opens = (kidsC h l i).filter g
  | [], _, _ => rfl
  | o :: r, i, N => by simp only [kidsG, kidsC, List.filter_append, hf, kidsG_opens g hf r]
/-- a clash of the last option shows in all that go on -/
theorem okFrom_clash {t : List WishD} {pre s : List Int} {b : Int} {h : Int} (hc : 0 ≤ lastClash t pre) : goodC t b (pre.length - 1) (pre ++ s, h) = false := by
  have hpos : 0 < pre.length := by
    rcases Nat.eq_zero_or_pos pre.length with h | h
    · simp [lastClash, h] at hc
    · exact h
  have e : earlierI t (pre ++ s) (pre.length - 1) = lastClash t pre := by
    have := earlierI_take (t := t) (pick := pre ++ s) (d := pre.length) (j := pre.length - 1) (by omega)
    rw [List.take_left] at this
    rw [← this]
    unfold lastClash
    rw [if_neg (by omega)]
  have e2 : 0 ≤ earlierI t (pre ++ s) (pre.length - 1) := by rw [e]; exact hc
  simp only [goodC, okFrom, Bool.and_eq_false_iff]
  left
  rw [List.all_eq_false]
  exact ⟨pre.length - 1, by simp; omega, by simp; omega⟩
theorem okFrom_step {t : List WishD} {pre : List Int} {p : List Int} (hp : ∃ s, p = pre ++ s) (hc : ¬ 0 ≤ lastClash t pre) : okFrom t (pre.length - 1) p = okFrom t pre.length p := by
  obtain ⟨s, rfl⟩ := hp
  unfold okFrom
  rw [Bool.eq_iff_iff, List.all_eq_true, List.all_eq_true]
  refine ⟨fun h d hd => ?_, fun h d hd => ?_⟩
  · have := h d hd
    simp only [Bool.or_eq_true, decide_eq_true_eq] at this ⊢
    omega
  · have := h d hd
    simp only [Bool.or_eq_true, decide_eq_true_eq] at this ⊢
    rcases this with h1 | h1
    · rcases Nat.lt_or_ge d (pre.length - 1) with h2 | h2
      · exact Or.inl h2
      · right
        have hd1 : d = pre.length - 1 := by omega
        have e := earlierI_take (t := t) (pick := pre ++ s) (d := pre.length) (j := pre.length - 1) (by omega)
        rw [List.take_left] at e
        rw [hd1, ← e]
        unfold lastClash at hc
        rw [if_neg (by omega)] at hc
        omega
    · exact Or.inr h1
theorem filter_none {α : Type} {g : α → Bool} {l : List α} (h : ∀ c ∈ l, g c = false) : l.filter g = [] := by
  rw [List.filter_eq_nil_iff]
  intro c hc
  rw [h c hc]
  simp
theorem growL_opens (t : List WishD) (b : Int) : ∀ (l : List WishD) (pre : List Int) (harm : Int) (N : Nat), (growL t b l pre harm N).opens = (choicesL l pre harm).filter (goodC t b (pre.length - 1))
  | [], pre, harm, N => by
    simp only [growL, choicesL]
    split
    · rename_i hc
      rw [filter_none]
      intro c hc'
      simp at hc'
      subst hc'
      have := okFrom_clash (s := []) (b := b) (h := harm) hc
      simpa using this
    · rename_i hc
      have hok : okFrom t (pre.length - 1) pre = true := by
        rw [okFrom_step ⟨[], by simp⟩ hc]
        unfold okFrom
        rw [List.all_eq_true]
        intro d hd
        simp at hd
        simp [hd]
      split
      · rename_i hb
        rw [filter_none]
        intro c hc'
        simp at hc'
        subst hc'
        simp [goodC]
        omega
      · rename_i hb
        have hg : goodC t b (pre.length - 1) (pre, harm) = true := by simp [goodC, hok]; omega
        simp [hg]
  | x :: r, pre, harm, N => by
    simp only [growL]
    split
    · rename_i hc
      rw [filter_none]
      intro c hc'
      obtain ⟨s, e, _⟩ := choicesL_pre hc'
      have := okFrom_clash (s := s) (b := b) (h := c.2) hc
      rw [← e] at this
      exact this
    · rename_i hc
      split
      · rename_i hb
        rw [filter_none]
        intro c hc'
        have := choicesL_harm hc'
        simp [goodC]
        omega
      · simp only [choicesL]
        refine kidsG_opens _ (fun i o N' => ?_) x.opts 0 (N + 1)
        rw [growL_opens t b r]
        refine List.filter_congr fun c hc' => ?_
        obtain ⟨s, e, _⟩ := choicesL_pre hc'
        unfold goodC
        rw [okFrom_step (pre := pre) ⟨i :: s, by rw [e]; simp⟩ hc]
        simp
theorem kidsG_ests_nil {P : (List Int × Int) → Prop} {f : Int → OptD → Nat → Res} {h : Int → OptD → List (List Int × Int)} : ∀ (l : List OptD) (i : Int) (N : Nat), (∀ i o N, (f i o N).ests = [] → ∀ c ∈ h i o, P c) → (kidsG f l i N).ests = [] → ∀ c ∈ kidsC h l i, P c
  | [], _, _, _, _, c, hc => by cases hc
  | o :: r, i, N, hf, he, c, hc => by
    simp only [kidsG, List.append_eq_nil_iff] at he
    simp only [kidsC, List.mem_append] at hc
    rcases hc with hc | hc
    · exact hf i o N he.1 c hc
    · exact kidsG_ests_nil r (i + 1) _ hf he.2 c hc
/-- a tree without an estimate has all choices that do not clash -/
theorem growL_all (t : List WishD) (b : Int) : ∀ (l : List WishD) (pre : List Int) (harm : Int) (N : Nat), (growL t b l pre harm N).ests = [] → ∀ c ∈ choicesL l pre harm, okFrom t (pre.length - 1) c.1 = true → c.2 < b
  | [], pre, harm, N, he, c, hc, hok => by
    simp only [growL] at he
    simp only [choicesL, List.mem_singleton] at hc
    subst hc
    split at he
    · rename_i hcl
      have := okFrom_clash (s := []) (b := harm + 1) (h := harm) hcl
      simp only [goodC, List.append_nil, hok, Bool.true_and, decide_eq_false_iff_not] at this
      omega
    · split at he
      · simp at he
      · dsimp only; omega
  | x :: r, pre, harm, N, he, c, hc, hok => by
    simp only [growL] at he
    obtain ⟨s, e, _⟩ := choicesL_pre hc
    split at he
    · rename_i hcl
      have := okFrom_clash (s := s) (b := c.2 + 1) (h := c.2) hcl
      simp only [goodC, ← e, hok, Bool.true_and, decide_eq_false_iff_not] at this
      omega
    · rename_i hcl
      split at he
      · simp at he
      · refine kidsG_ests_nil (P := fun c => okFrom t (pre.length - 1) c.1 = true → c.2 < b) (h := fun i o => choicesL r (pre ++ [i]) (harm + o.harm)) x.opts 0 (N + 1) (fun i o N' he' c' hc' hok' => ?_) he c hc hok
        obtain ⟨s', e', _⟩ := choicesL_pre hc'
        refine growL_all t b r (pre ++ [i]) (harm + o.harm) N' he' c' hc' ?_
        rw [okFrom_step (pre := pre) ⟨i :: s', by rw [e']; simp⟩ hcl] at hok'
        simpa using hok'
/-- the lawful choices of a task, in order, with their harm -/
def lawfulL (t : List WishD) : List (List Int × Int) := (choicesL t [] 0).filter fun c => okFrom t 0 c.1
theorem opens_lawful (t : List WishD) (b : Int) : (growL t b t [] 0 0).opens = (lawfulL t).filter fun c => decide (c.2 < b) := by
  rw [growL_opens, lawfulL, List.filter_filter]
  refine List.filter_congr fun c _ => ?_
  simp [goodC, Bool.and_comm]
theorem bestRes_none {t : List WishD} {b : Int} (h1 : (growL t b t [] 0 0).opens = []) (h2 : (growL t b t [] 0 0).ests = []) : lawfulL t = [] := by
  rw [opens_lawful, List.filter_eq_nil_iff] at h1
  rw [lawfulL, List.filter_eq_nil_iff]
  intro c hc hok
  have h3 := growL_all t b t [] 0 0 h2 c hc hok
  exact h1 c (by rw [lawfulL, List.mem_filter]; exact ⟨hc, hok⟩) (by simpa using h3)
/-- what the choices with less harm than b come to, set beside what all come to -/
def Beside (b : Int) (f f' : Option (List Int × Int)) : Prop := (f = none ∧ ∀ y, f' = some y → b ≤ y.2) ∨ ∃ y, f = some y ∧ f' = some y ∧ y.2 < b
theorem foldFound_filter {b : Int} : ∀ (l : List (List Int × Int)) (f f' : Option (List Int × Int)), Beside b f f' → Beside b (foldFound f (l.filter fun c => decide (c.2 < b))) (foldFound f' l)
  | [], _, _, h => h
  | x :: r, f, f', h => by
    by_cases hx : x.2 < b
    · rw [List.filter_cons_of_pos (by simpa using hx)]
      refine foldFound_filter r (stepFound f x) (stepFound f' x) ?_
      rcases h with ⟨rfl, h⟩ | ⟨y, rfl, rfl, h⟩
      · right
        refine ⟨x, rfl, ?_, hx⟩
        cases f' with
        | none => rfl
        | some y =>
          have := h y rfl
          simp only [stepFound]
          rw [if_pos (by omega)]
      · right
        simp only [stepFound]
        split
        · exact ⟨x, rfl, rfl, hx⟩
        · exact ⟨y, rfl, rfl, h⟩
    · rw [List.filter_cons_of_neg (by simpa using hx)]
      refine foldFound_filter r f (stepFound f' x) ?_
      rcases h with ⟨rfl, h⟩ | ⟨y, rfl, rfl, h⟩
      · left
        refine ⟨rfl, fun y hy => ?_⟩
        cases f' with
        | none => simp only [stepFound, Option.some.injEq] at hy; subst hy; omega
        | some z =>
          have := h z rfl
          simp only [stepFound] at hy
          split at hy <;> (simp only [Option.some.injEq] at hy; subst hy; omega)
      · right
        refine ⟨y, rfl, ?_, h⟩
        simp only [stepFound]
        rw [if_neg (by omega)]
/-- the best plan: the first of the least harm of all lawful choices -/
def bestOf (t : List WishD) : Option (List Int × Int) := foldFound none (lawfulL t)
theorem bestRes_some {t : List WishD} {b : Int} {r : List Int × Int} (h : foldFound none (growL t b t [] 0 0).opens = some r) : bestOf t = some r ∧ r.2 < b := by
  rw [opens_lawful] at h
  rcases foldFound_filter (lawfulL t) none none (b := b) (Or.inl ⟨rfl, fun y hy => by cases hy⟩) with ⟨h1, _⟩ | ⟨y, h1, h2, h3⟩
  · rw [h1] at h; cases h
  · rw [h1] at h; cases h; exact ⟨h2, h3⟩
theorem foldFound_spec : ∀ (l : List (List Int × Int)) (f : Option (List Int × Int)) (r : List Int × Int), foldFound f l = some r → (r ∈ l ∨ f = some r) ∧ (∀ x ∈ l, r.2 ≤ x.2) ∧ ∀ y, f = some y → r.2 ≤ y.2
  | [], f, r, h => by
    have h' : f = some r := h
    refine ⟨Or.inr h', fun x hx => (by cases hx), fun y hy => ?_⟩
    rw [h'] at hy
    cases hy
    exact Int.le_refl _
  | x :: l, f, r, h => by
    obtain ⟨h1, h2, h3⟩ := foldFound_spec l (stepFound f x) r h
    cases f with
    | none =>
      have hx := h3 x rfl
      refine ⟨?_, fun y hy => ?_, fun y hy => by cases hy⟩
      · rcases h1 with h1 | h1
        · exact Or.inl (List.mem_cons_of_mem _ h1)
        · simp only [stepFound, Option.some.injEq] at h1; exact Or.inl (by rw [← h1]; exact List.mem_cons_self)
      · rcases List.mem_cons.1 hy with rfl | hy
        · exact hx
        · exact h2 y hy
    | some z =>
      by_cases hxz : x.2 < z.2
      · have e : stepFound (some z) x = some x := by simp [stepFound, hxz]
        have hx := h3 x e
        refine ⟨?_, fun y hy => ?_, fun y hy => by cases hy; omega⟩
        · rcases h1 with h1 | h1
          · exact Or.inl (List.mem_cons_of_mem _ h1)
          · rw [e] at h1; cases h1; exact Or.inl List.mem_cons_self
        · rcases List.mem_cons.1 hy with rfl | hy
          · exact hx
          · exact h2 y hy
      · have e : stepFound (some z) x = some z := by simp [stepFound, hxz]
        have hz := h3 z e
        refine ⟨?_, fun y hy => ?_, fun y hy => by cases hy; exact hz⟩
        · rcases h1 with h1 | h1
          · exact Or.inl (List.mem_cons_of_mem _ h1)
          · rw [e] at h1; exact Or.inr h1
        · rcases List.mem_cons.1 hy with rfl | hy
          · omega
          · exact h2 y hy
end Go.Proofs.Ytonmlmkemliefaa
