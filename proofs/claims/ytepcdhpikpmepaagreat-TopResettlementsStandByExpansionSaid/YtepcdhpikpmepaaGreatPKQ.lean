/- Merged parts: Plain, PlainB, PlainC, PlainD. -/
import Derived.Test.YtepcdhpikpmepaaGreatPEQ
import Derived.Test.YtepcdhpikpmepaaGreatPIQ
/- The plain law of the standard tree: its open leaves are the lawful choices with less harm than the bound, in lexicographic order. -/
namespace Go.Proofs.YtepcdhpikpmepaaGreat
open Go.RowKit

def kidsC (f : Int → OptD → List (List Int × Int)) : List OptD → Int → List (List Int × Int)
 | [], _ => []
 | o :: r, i => f i o ++ kidsC f r (i + 1)
def choicesL : List WishD → List Int → Int → List (List Int × Int)
 | [], pre, harm => [(pre, harm)]
 | x :: r, pre, harm => kidsC (fun i o => choicesL r (pre ++ [i]) (harm + o.harm)) x.opts 0
def okFrom (t : List WishD) (k : Nat) (p : List Int) : Bool := (List.range p.length).all fun d => decide (d < k) || decide (earlierI t p d < 0)
def goodC (t : List WishD) (b : Int) (k : Nat) (c : List Int × Int) : Bool := okFrom t k c.1 && decide (c.2 < b)

theorem kidsC_mem {f : Int → OptD → List (List Int × Int)} {c : List Int × Int} : ∀ {l : List OptD} {i : Int}, c ∈ kidsC f l i → ∃ j o, o ∈ l ∧ c ∈ f j o
 | [], _, h => by cases h
 | o :: r, i, h => by
  simp only [kidsC, List.mem_append] at h
  rcases h with h | h
  ·exact ⟨i, o, List.mem_cons_self, h⟩
  ·obtain ⟨j, o', h1, h2⟩ := kidsC_mem h
   exact ⟨j, o', List.mem_cons_of_mem _ h1, h2⟩
theorem choicesL_pre {c : List Int × Int} : ∀ {l : List WishD} {pre : List Int} {harm : Int}, c ∈ choicesL l pre harm → ∃ s, c.1 = pre ++ s ∧ s.length = l.length
 | [], pre, harm, h => by simp [choicesL] at h; exact ⟨[], by rw [h]; simp, rfl⟩
 | x :: r, pre, harm, h => by
  obtain ⟨j, o, _, h2⟩ := kidsC_mem h
  obtain ⟨s, e, hs⟩ := choicesL_pre h2
  exact ⟨j :: s, by rw [e]; simp, by simp [hs]⟩
theorem leastN_le : ∀ (l : List OptD) (n : Int), leastN l n ≤ n ∧ ∀ o ∈ l, leastN l n ≤ o.harm
 | [], n => ⟨Int.le_refl _, fun _ h => by cases h⟩
 | x :: r, n => by
  obtain ⟨h1, h2⟩ := leastN_le r (min n x.harm)
  show leastN r (min n x.harm) ≤ n ∧ _
  refine ⟨by omega, fun o ho => ?_⟩
  show leastN r (min n x.harm) ≤ o.harm
  rcases List.mem_cons.1 ho with rfl | ho
  ·omega
  ·exact h2 o ho
theorem choicesL_harm {c : List Int × Int} : ∀ {l : List WishD} {pre : List Int} {harm : Int}, c ∈ choicesL l pre harm → harm + leastSum l ≤ c.2
 | [], pre, harm, h => by simp [choicesL] at h; rw [h]; simp [leastSum]
 | x :: r, pre, harm, h => by
  obtain ⟨j, o, ho, h2⟩ := kidsC_mem h
  have h3 := choicesL_harm h2
  have h4 : leastB x ≤ o.harm := (leastN_le x.opts 1000000).2 o ho
  simp only [leastSum]
  omega
theorem kidsG_opens (g : (List Int × Int) → Bool) {f : Int → OptD → Nat → Res} {h : Int → OptD → List (List Int × Int)} (hf : ∀ i o N, (f i o N).opens = (h i o).filter g) : ∀ (l : List OptD) (i : Int) (N : Nat), (kidsG f l i N).opens = (kidsC h l i).filter g
 | [], _, _ => rfl
 | o :: r, i, N => by simp only [kidsG, kidsC, List.filter_append, hf, kidsG_opens g hf r]
theorem okFrom_clash {t : List WishD} {pre s : List Int} {b : Int} {h : Int} (hc : 0 ≤ lastClash t pre) : goodC t b (pre.length - 1) (pre ++ s, h) = false := by
 have hpos : 0 < pre.length := by
  rcases Nat.eq_zero_or_pos pre.length with h | h
  ·simp [lastClash, h] at hc
  ·exact h
 have e : earlierI t (pre ++ s) (pre.length - 1) = lastClash t pre := by
  have := earlierI_take (t := t) (pick := pre ++ s) (d := pre.length) (j := pre.length - 1) (by omega)
  rw [List.take_left] at this
  rw [← this]
  unfold lastClash
  rw [if_neg (by omega)]
 have e2 : 0 ≤ earlierI t (pre ++ s) (pre.length - 1) := by rw [e]; exact hc
 simp only [goodC, okFrom, Bool.and_eq_false_iff]
 left
 rw [List.all_eq_false]
 exact ⟨pre.length - 1, by simp; omega, by simp; omega⟩
theorem okFrom_step {t : List WishD} {pre : List Int} {p : List Int} (hp : ∃ s, p = pre ++ s) (hc : ¬ 0 ≤ lastClash t pre) : okFrom t (pre.length - 1) p = okFrom t pre.length p := by
 obtain ⟨s, rfl⟩ := hp
 unfold okFrom
 rw [Bool.eq_iff_iff, List.all_eq_true, List.all_eq_true]
 refine ⟨fun h d hd => ?_, fun h d hd => ?_⟩
 ·have := h d hd
  simp only [Bool.or_eq_true, decide_eq_true_eq] at this ⊢
  omega
 ·have := h d hd
  simp only [Bool.or_eq_true, decide_eq_true_eq] at this ⊢
  rcases this with h1 | h1
  ·rcases Nat.lt_or_ge d (pre.length - 1) with h2 | h2
   ·exact Or.inl h2
   ·right
    have hd1 : d = pre.length - 1 := by omega
    have e := earlierI_take (t := t) (pick := pre ++ s) (d := pre.length) (j := pre.length - 1) (by omega)
    rw [List.take_left] at e
    rw [hd1, ← e]
    unfold lastClash at hc
    rw [if_neg (by omega)] at hc
    omega
  ·exact Or.inr h1
theorem filter_none {α : Type} {g : α → Bool} {l : List α} (h : ∀ c ∈ l, g c = false) : l.filter g = [] := by
 rw [List.filter_eq_nil_iff]
 intro c hc
 rw [h c hc]
 simp
theorem growL_opens (t : List WishD) (b : Int) : ∀ (l : List WishD) (pre : List Int) (harm : Int) (N : Nat), (growL t b l pre harm N).opens = (choicesL l pre harm).filter (goodC t b (pre.length - 1))
 | [], pre, harm, N => by
  simp only [growL, choicesL]
  split
  ·rename_i hc
   rw [filter_none]
   intro c hc'
   simp at hc'
   subst hc'
   have := okFrom_clash (s := []) (b := b) (h := harm) hc
   simpa using this
  ·rename_i hc
   have hok : okFrom t (pre.length - 1) pre = true := by
    rw [okFrom_step ⟨[], by simp⟩ hc]
    unfold okFrom
    rw [List.all_eq_true]
    intro d hd
    simp at hd
    simp [hd]
   split
   ·rename_i hb
    rw [filter_none]
    intro c hc'
    simp at hc'
    subst hc'
    simp [goodC]
    omega
   ·rename_i hb
    have hg : goodC t b (pre.length - 1) (pre, harm) = true := by simp [goodC, hok]; omega
    simp [hg]
 | x :: r, pre, harm, N => by
  simp only [growL]
  split
  ·rename_i hc
   rw [filter_none]
   intro c hc'
   obtain ⟨s, e, _⟩ := choicesL_pre hc'
   have := okFrom_clash (s := s) (b := b) (h := c.2) hc
   rw [← e] at this
   exact this
  ·rename_i hc
   split
   ·rename_i hb
    rw [filter_none]
    intro c hc'
    have := choicesL_harm hc'
    simp [goodC]
    omega
   ·simp only [choicesL]
    refine kidsG_opens _ (fun i o N' => ?_) x.opts 0 (N + 1)
    rw [growL_opens t b r]
    refine List.filter_congr fun c hc' => ?_
    obtain ⟨s, e, _⟩ := choicesL_pre hc'
    unfold goodC
    rw [okFrom_step (pre := pre) ⟨i :: s, by rw [e]; simp⟩ hc]
    simp
theorem kidsG_ests_nil {P : (List Int × Int) → Prop} {f : Int → OptD → Nat → Res} {h : Int → OptD → List (List Int × Int)} : ∀ (l : List OptD) (i : Int) (N : Nat), (∀ i o N, (f i o N).ests = [] → ∀ c ∈ h i o, P c) → (kidsG f l i N).ests = [] → ∀ c ∈ kidsC h l i, P c
 | [], _, _, _, _, c, hc => by cases hc
 | o :: r, i, N, hf, he, c, hc => by
  simp only [kidsG, List.append_eq_nil_iff] at he
  simp only [kidsC, List.mem_append] at hc
  rcases hc with hc | hc
  ·exact hf i o N he.1 c hc
  ·exact kidsG_ests_nil r (i + 1) _ hf he.2 c hc
theorem growL_all (t : List WishD) (b : Int) : ∀ (l : List WishD) (pre : List Int) (harm : Int) (N : Nat), (growL t b l pre harm N).ests = [] → ∀ c ∈ choicesL l pre harm, okFrom t (pre.length - 1) c.1 = true → c.2 < b
 | [], pre, harm, N, he, c, hc, hok => by
  simp only [growL] at he
  simp only [choicesL, List.mem_singleton] at hc
  subst hc
  split at he
  ·rename_i hcl
   have := okFrom_clash (s := []) (b := harm + 1) (h := harm) hcl
   simp only [goodC, List.append_nil, hok, Bool.true_and, decide_eq_false_iff_not] at this
   omega
  ·split at he
   ·simp at he
   ·dsimp only; omega
 | x :: r, pre, harm, N, he, c, hc, hok => by
  simp only [growL] at he
  obtain ⟨s, e, _⟩ := choicesL_pre hc
  split at he
  ·rename_i hcl
   have := okFrom_clash (s := s) (b := c.2 + 1) (h := c.2) hcl
   simp only [goodC, ← e, hok, Bool.true_and, decide_eq_false_iff_not] at this
   omega
  ·rename_i hcl
   split at he
   ·simp at he
   ·refine kidsG_ests_nil (P := fun c => okFrom t (pre.length - 1) c.1 = true → c.2 < b) (h := fun i o => choicesL r (pre ++ [i]) (harm + o.harm)) x.opts 0 (N + 1) (fun i o N' he' c' hc' hok' => ?_) he c hc hok
    obtain ⟨s', e', _⟩ := choicesL_pre hc'
    refine growL_all t b r (pre ++ [i]) (harm + o.harm) N' he' c' hc' ?_
    rw [okFrom_step (pre := pre) ⟨i :: s', by rw [e']; simp⟩ hcl] at hok'
    simpa using hok'
def lawfulL (t : List WishD) : List (List Int × Int) := (choicesL t [] 0).filter fun c => okFrom t 0 c.1
theorem opens_lawful (t : List WishD) (b : Int) : (growL t b t [] 0 0).opens = (lawfulL t).filter fun c => decide (c.2 < b) := by
 rw [growL_opens, lawfulL, List.filter_filter]
 refine List.filter_congr fun c _ => ?_
 simp [goodC, Bool.and_comm]
theorem bestRes_none {t : List WishD} {b : Int} (h1 : (growL t b t [] 0 0).opens = []) (h2 : (growL t b t [] 0 0).ests = []) : lawfulL t = [] := by
 rw [opens_lawful, List.filter_eq_nil_iff] at h1
 rw [lawfulL, List.filter_eq_nil_iff]
 intro c hc hok
 have h3 := growL_all t b t [] 0 0 h2 c hc hok
 exact h1 c (by rw [lawfulL, List.mem_filter]; exact ⟨hc, hok⟩) (by simpa using h3)
def Beside (b : Int) (f f' : Option (List Int × Int)) : Prop := (f = none ∧ ∀ y, f' = some y → b ≤ y.2) ∨ ∃ y, f = some y ∧ f' = some y ∧ y.2 < b
theorem foldFound_filter {b : Int} : ∀ (l : List (List Int × Int)) (f f' : Option (List Int × Int)), Beside b f f' → Beside b (foldFound f (l.filter fun c => decide (c.2 < b))) (foldFound f' l)
 | [], _, _, h => h
 | x :: r, f, f', h => by
  by_cases hx : x.2 < b
  ·rw [List.filter_cons_of_pos (by simpa using hx)]
   refine foldFound_filter r (stepFound f x) (stepFound f' x) ?_
   rcases h with ⟨rfl, h⟩ | ⟨y, rfl, rfl, h⟩
   ·right
    refine ⟨x, rfl, ?_, hx⟩
    cases f' with
    | none => rfl
    | some y =>
     have := h y rfl
     simp only [stepFound]
     rw [if_pos (by omega)]
   ·right
    simp only [stepFound]
    split
    ·exact ⟨x, rfl, rfl, hx⟩
    ·exact ⟨y, rfl, rfl, h⟩
  ·rw [List.filter_cons_of_neg (by simpa using hx)]
   refine foldFound_filter r f (stepFound f' x) ?_
   rcases h with ⟨rfl, h⟩ | ⟨y, rfl, rfl, h⟩
   ·left
    refine ⟨rfl, fun y hy => ?_⟩
    cases f' with
    | none => simp only [stepFound, Option.some.injEq] at hy; subst hy; omega
    | some z =>
     have := h z rfl
     simp only [stepFound] at hy
     split at hy <;> (simp only [Option.some.injEq] at hy; subst hy; omega)
   ·right
    refine ⟨y, rfl, ?_, h⟩
    simp only [stepFound]
    rw [if_neg (by omega)]
def bestOf (t : List WishD) : Option (List Int × Int) := foldFound none (lawfulL t)
theorem bestRes_some {t : List WishD} {b : Int} {r : List Int × Int} (h : foldFound none (growL t b t [] 0 0).opens = some r) : bestOf t = some r ∧ r.2 < b := by
 rw [opens_lawful] at h
 rcases foldFound_filter (lawfulL t) none none (b := b) (Or.inl ⟨rfl, fun y hy => by cases hy⟩) with ⟨h1, _⟩ | ⟨y, h1, h2, h3⟩
 ·rw [h1] at h; cases h
 ·rw [h1] at h; cases h; exact ⟨h2, h3⟩
theorem foldFound_spec : ∀ (l : List (List Int × Int)) (f : Option (List Int × Int)) (r : List Int × Int), foldFound f l = some r → (r ∈ l ∨ f = some r) ∧ (∀ x ∈ l, r.2 ≤ x.2) ∧ ∀ y, f = some y → r.2 ≤ y.2
 | [], f, r, h => by
  have h' : f = some r := h
  refine ⟨Or.inr h', fun x hx => (by cases hx), fun y hy => ?_⟩
  rw [h'] at hy
  cases hy
  exact Int.le_refl _
 | x :: l, f, r, h => by
  obtain ⟨h1, h2, h3⟩ := foldFound_spec l (stepFound f x) r h
  cases f with
  | none =>
   have hx := h3 x rfl
   refine ⟨?_, fun y hy => ?_, fun y hy => by cases hy⟩
   ·rcases h1 with h1 | h1
    ·exact Or.inl (List.mem_cons_of_mem _ h1)
    ·simp only [stepFound, Option.some.injEq] at h1; exact Or.inl (by rw [← h1]; exact List.mem_cons_self)
   ·rcases List.mem_cons.1 hy with rfl | hy
    ·exact hx
    ·exact h2 y hy
  | some z =>
   by_cases hxz : x.2 < z.2
   ·have e : stepFound (some z) x = some x := by simp [stepFound, hxz]
    have hx := h3 x e
    refine ⟨?_, fun y hy => ?_, fun y hy => by cases hy; omega⟩
    ·rcases h1 with h1 | h1
     ·exact Or.inl (List.mem_cons_of_mem _ h1)
     ·rw [e] at h1; cases h1; exact Or.inl List.mem_cons_self
    ·rcases List.mem_cons.1 hy with rfl | hy
     ·exact hx
     ·exact h2 y hy
   ·have e : stepFound (some z) x = some z := by simp [stepFound, hxz]
    have hz := h3 z e
    refine ⟨?_, fun y hy => ?_, fun y hy => by cases hy; exact hz⟩
    ·rcases h1 with h1 | h1
     ·exact Or.inl (List.mem_cons_of_mem _ h1)
     ·rw [e] at h1; exact Or.inr h1
    ·rcases List.mem_cons.1 hy with rfl | hy
     ·omega
     ·exact h2 y hy
end Go.Proofs.YtepcdhpikpmepaaGreat

/- The plain law of the check: a certificate that is accepted for a bound shows that no lawful choice has less harm. -/
namespace Go.Proofs.YtepcdhpikpmepaaGreat
open Go.RowKit

/-! ### clashes are symmetric -/
theorem shareB_comm (a b : List Int) : shareB a b = shareB b a := by
 have h : ∀ a b : List Int, shareB a b = true → shareB b a = true := by
  intro a b h
  simp only [shareB, List.any_eq_true, List.contains_iff_mem] at h ⊢
  obtain ⟨x, h1, h2⟩ := h
  exact ⟨x, h2, h1⟩
 rw [Bool.eq_iff_iff]
 exact ⟨h a b, h b a⟩
theorem meetB_comm (a b : List (Int × Int)) : meetB a b = meetB b a := by
 have h : ∀ a b : List (Int × Int), meetB a b = true → meetB b a = true := by
  intro a b h
  simp only [meetB, List.any_eq_true, Bool.and_eq_true, decide_eq_true_eq] at h ⊢
  obtain ⟨x, h1, y, h2, h3, h4⟩ := h
  exact ⟨y, h2, x, h1, h4, h3⟩
 rw [Bool.eq_iff_iff]
 exact ⟨h a b, h b a⟩
theorem clashB_comm (a b : WishD) (x y : OptD) : clashB a b x y = clashB b a y x := by
 unfold clashB
 rw [shareB_comm, meetB_comm]
 congr 2
 rw [Bool.eq_iff_iff]
 simp only [Bool.and_eq_true, decide_eq_true_eq]
 omega
theorem clashAt_comm (t : List WishD) (p : List Int) (i d : Nat) : clashAt t p i d = clashAt t p d i := by
 unfold clashAt
 cases optOf t p i <;> cases optOf t p d <;> simp
 rename_i a b
 exact clashB_comm _ _ _ _
theorem freeB_no {t : List WishD} {p : List Int} (h : freeB t p = true) {i d : Nat} (hi : i < p.length) (hd : d < p.length) (hne : i ≠ d) : clashAt t p i d = false := by
 have main : ∀ i d, i < d → d < p.length → clashAt t p i d = false := by
  intro i d hid hd
  cases hc : clashAt t p i d with
  | false => rfl
  | true =>
   have h1 : decide (0 ≤ earlierI t p d) = true := by
    unfold earlierI
    rw [findI_ge, List.any_eq_true]
    exact ⟨i, by simpa using hid, hc⟩
   rw [decide_eq_true_eq] at h1
   rw [freeB_hit hd h1] at h
   cases h
 rcases Nat.lt_or_gt_of_ne hne with h1 | h1
 ·exact main i d h1 hd
 ·rw [clashAt_comm]; exact main d i h1 hi

/-! ### the harm that is not yet decided -/
def harmK (x : WishD) (k : Int) : Int := ((x.opts[k.toNat]?).getD default).harm
def slack : List WishD → List Int → List Int → Int
 | x :: t, d :: dec, k :: p => (if d < 0 then harmK x k - leastB x else 0) + slack t dec p
 | _, _, _ => 0
theorem harmK_ge {x : WishD} {k : Int} (h : idxB k x.opts.length = true) : leastB x ≤ harmK x k := by
 obtain ⟨j, rfl, hj⟩ := idxB_nat h
 have := (leastN_le x.opts 1000000).2 x.opts[j] (List.getElem_mem hj)
 simp only [harmK, Int.toNat_natCast, List.getElem?_eq_getElem hj, Option.getD_some]
 exact this
theorem slack_ge : ∀ {t : List WishD} {dec p : List Int}, choiceB t p = true → 0 ≤ slack t dec p
 | [], _, _, _ => by simp [slack]
 | _ :: _, [], _, _ => by simp [slack]
 | _ :: _, _ :: _, [], _ => by simp [slack]
 | x :: t, d :: dec, k :: p, h => by
  simp only [choiceB, Bool.and_eq_true] at h
  have h1 := slack_ge (dec := dec) h.2
  have h2 := harmK_ge h.1
  simp only [slack]
  split <;> omega
theorem slack_start : ∀ (t : List WishD) (p : List Int), choiceB t p = true → leastSum t + slack t (List.replicate t.length (-1)) p = sumH t p
 | [], [], _ => rfl
 | [], _ :: _, h => by simp [choiceB] at h
 | _ :: _, [], h => by simp [choiceB] at h
 | x :: t, k :: p, h => by
  simp only [choiceB, Bool.and_eq_true] at h
  have := slack_start t p h.2
  simp only [List.length_cons, List.replicate_succ, slack, leastSum, sumH]
  rw [if_pos (by omega)]
  simp only [harmK]
  omega
theorem slack_set : ∀ {t : List WishD} {dec p : List Int} {m : Nat} {x : WishD} {d k i : Int}, t[m]? = some x → dec[m]? = some d → p[m]? = some k → d < 0 → 0 ≤ i →
  slack t (dec.set m i) p = slack t dec p - (harmK x k - leastB x)
 | [], _, _, m, x, d, k, i, h, _, _, _, _ => by simp at h
 | _ :: _, [], _, m, x, d, k, i, _, h, _, _, _ => by simp at h
 | _ :: _, _ :: _, [], m, x, d, k, i, _, _, h, _, _ => by simp at h
 | y :: t, e :: dec, q :: p, 0, x, d, k, i, h1, h2, h3, h4, h5 => by
  simp at h1 h2 h3
  subst h1 h2 h3
  simp only [List.set_cons_zero, slack]
  rw [if_neg (by omega), if_pos h4]
  omega
 | y :: t, e :: dec, q :: p, m + 1, x, d, k, i, h1, h2, h3, h4, h5 => by
  have := slack_set (t := t) (dec := dec) (p := p) (m := m) (by simpa using h1) (by simpa using h2) (by simpa using h3) h4 h5
  simp only [List.set_cons_succ, slack, this]
  omega

def Goes (dec p : List Int) : Prop := ∀ (j : Nat) (d : Int), dec[j]? = some d → 0 ≤ d → p[j]? = some d
theorem Goes.set_ {dec p : List Int} (h : Goes dec p) {m : Nat} {k : Int} (hk : p[m]? = some k) : Goes (dec.set m k) p := by
 intro j d hd h0
 rw [List.getElem?_set] at hd
 split at hd
 ·rename_i e
  subst e
  split at hd
  ·cases hd; exact hk
  ·cases hd
 ·exact h j d hd h0
theorem Goes.opt {t : List WishD} {dec p : List Int} (h : Goes dec p) {j : Nat} {r : WishD × OptD} (hr : optOf t dec j = some r) : optOf t p j = some r := by
 obtain ⟨n, h1, h2, h3⟩ := optOf_spec hr
 have := h j n h2 (by omega)
 simp only [optOf, h1, this, Option.bind_some]
 rw [if_pos (by omega)]
 simp [h3]
theorem kidsR_at {g : Int → Int → OptD → Bool} : ∀ {i : Int} {ks : List Int} {os : List OptD}, kidsR g i ks os = true → ∀ (j : Nat) (k : Int) (o : OptD), ks[j]? = some k → os[j]? = some o → g (i + j) k o = true
 | i, [], os, _, j, k, o, h, _ => by simp at h
 | i, _ :: _, [], _, j, k, o, _, h => by simp at h
 | i, a :: ks, b :: os, h, 0, k, o, h1, h2 => by
  simp only [kidsR, Bool.and_eq_true] at h
  simp at h1 h2
  subst h1 h2
  simpa using h.1
 | i, a :: ks, b :: os, h, j + 1, k, o, h1, h2 => by
  simp only [kidsR, Bool.and_eq_true] at h
  have := kidsR_at h.2 j k o (by simpa using h1) (by simpa using h2)
  rw [show i + ((j + 1 : Nat) : Int) = i + 1 + j by omega]
  exact this
theorem idx_getElem {t : List WishD} {p : List Int} (h : choiceB t p = true) {m : Nat} {x : WishD} (hx : t[m]? = some x) : ∃ k : Nat, p[m]? = some (k : Int) ∧ ∃ o, x.opts[k]? = some o := by
 have hm := (List.getElem?_eq_some_iff.1 hx).1
 obtain ⟨r, hr⟩ := Option.isSome_iff_exists.1 (optOf_of_choice h m hm)
 obtain ⟨n, h1, h2, h3⟩ := optOf_spec hr
 rw [hx] at h1
 cases h1
 exact ⟨n, h2, r.2, h3⟩

theorem right_sound (t : List WishD) (bound : Int) (c : List NodeD) (p : List Int) (hc : choiceB t p = true) (hf : freeB t p = true) :
  ∀ (f : Nat) (dec : List Int) (lst : Int) (at_ : Nat) (harm : Int), rightP t bound c f dec lst at_ harm = true → dec.length = t.length → Goes dec p → harm + lst + slack t dec p = sumH t p → bound ≤ sumH t p
 | 0, _, _, _, _, h, _, _, _ => by simp [rightP] at h
 | f + 1, dec, lst, at_, harm, h, hl, hg, hs => by
  have hpl := choiceB_len hc
  have hsl := slack_ge (dec := dec) hc
  simp only [rightP] at h
  split at h
  ·cases h
  ·rename_i n hn
   split at h
   ·simp only [Bool.and_eq_true, closedB] at h
    obtain ⟨_, h⟩ := h
    split at h
    ·simp only [Bool.and_eq_true, decide_eq_true_eq] at h
     omega
    ·split at h
     ·cases h
     ·rename_i hno
      simp only [Bool.and_eq_true, decide_eq_true_eq] at h
      obtain ⟨_, h3⟩ := h
      have hA : idxB n.clA t.length = true := by cases hh : idxB n.clA t.length <;> simp_all
      have hB : idxB n.clB t.length = true := by cases hh : idxB n.clB t.length <;> simp_all
      have hne : n.clA ≠ n.clB := fun e => hno (Or.inr (Or.inr e))
      obtain ⟨a, ea, ha⟩ := idxB_nat hA
      obtain ⟨b, eb, hb⟩ := idxB_nat hB
      rw [ea, eb] at h3 hne
      simp only [Int.toNat_natCast] at h3
      have h4 : clashAt t p a b = true := by
       unfold clashAt at h3
       cases h5 : optOf t dec a with
       | none => simp [h5] at h3
       | some r =>
        cases h6 : optOf t dec b with
        | none => simp [h5, h6] at h3
        | some r' =>
         simp only [h5, h6] at h3
         unfold clashAt
         rw [hg.opt h5, hg.opt h6]
         exact h3
      rw [freeB_no hf (by omega) (by omega) (by omega)] at h4
      cases h4
   ·split at h
    ·cases h
    ·rename_i hi
     have hA : idxB n.wish t.length = true := by simpa using hi
     obtain ⟨m, em, hm⟩ := idxB_nat hA
     rw [em] at h
     simp only [Int.toNat_natCast] at h
     split at h
     ·cases h
     ·rename_i x hx
      split at h
      ·cases h
      ·rename_i hno
       obtain ⟨k, hk, o, ho⟩ := idx_getElem hc hx
       have hkl : k < n.kids.length := by
        have := (List.getElem?_eq_some_iff.1 ho).1
        omega
       have hr := kidsR_at h k n.kids[k] o (List.getElem?_eq_getElem hkl) ho
       simp only [Int.zero_add] at hr
       have hdl : m < dec.length := by omega
       have hd : dec[m]? = some dec[m] := List.getElem?_eq_getElem hdl
       have hd0 : dec[m] < 0 := by
        have : ¬ 0 ≤ decAt dec (m : Int) := fun h => hno (Or.inl h)
        simp only [decAt, Int.toNat_natCast, hd, Option.getD_some] at this
        omega
       refine right_sound t bound c p hc hf f (dec.set m k) _ _ _ hr (by rw [List.length_set]; exact hl) (hg.set_ hk) ?_
       rw [slack_set hx hd hk hd0 (by omega)]
       have e : harmK x k = o.harm := by simp [harmK, ho]
       omega
theorem check_sound {t : List WishD} {bound : Int} {c : List NodeD} (h : checkT t bound c = 0) {p : List Int} (hp : lawfulB t p = true) : bound ≤ sumH t p := by
 simp only [lawfulB, Bool.and_eq_true, decide_eq_true_eq] at hp
 unfold checkT at h
 rw [if_neg (by simp [hp.1.1])] at h
 split at h
 ·cases h
 ·split at h
  ·rename_i hr
   refine right_sound t bound c p hp.1.2 hp.2 _ _ _ _ _ hr (by simp) ?_ ?_
   ·intro j d hd h0
    rw [List.getElem?_replicate] at hd
    split at hd
    ·cases hd; omega
    ·cases hd
   ·have := slack_start t p hp.1.2
    omega
  ·cases h

/-! ### the lawful choices -/
theorem mem_choicesL : ∀ {l : List WishD} {pre : List Int} {harm : Int} {c : List Int × Int}, c ∈ choicesL l pre harm ↔ ∃ s, c.1 = pre ++ s ∧ choiceB l s = true ∧ c.2 = harm + sumH l s
 | [], pre, harm, c => by
  simp only [choicesL, List.mem_singleton]
  refine ⟨fun h => ⟨[], by simp [h], rfl, by simp [h, sumH]⟩, ?_⟩
  rintro ⟨s, h1, h2, h3⟩
  cases s with
  | nil => obtain ⟨a, b⟩ := c; simp [sumH] at h1 h3; rw [h1, h3]
  | cons k s => simp [choiceB] at h2
 | x :: r, pre, harm, c => by
  have key : ∀ (l : List OptD) (i : Int), c ∈ kidsC (fun i o => choicesL r (pre ++ [i]) (harm + o.harm)) l i ↔ ∃ (j : Nat) (o : OptD), l[j]? = some o ∧ c ∈ choicesL r (pre ++ [i + j]) (harm + o.harm) := by
   intro l
   induction l with
   | nil => intro i; simp [kidsC]
   | cons o l ih =>
    intro i
    simp only [kidsC, List.mem_append, ih]
    constructor
    ·rintro (h | ⟨j, o', h1, h2⟩)
     ·exact ⟨0, o, rfl, by simpa using h⟩
     ·refine ⟨j + 1, o', by simpa using h1, ?_⟩
      rw [show i + ((j + 1 : Nat) : Int) = i + 1 + j by omega]
      exact h2
    ·rintro ⟨j, o', h1, h2⟩
     cases j with
     | zero => simp at h1; subst h1; left; simpa using h2
     | succ j =>
      right
      refine ⟨j, o', by simpa using h1, ?_⟩
      rw [show i + 1 + (j : Int) = i + ((j + 1 : Nat) : Int) by omega]
      exact h2
  simp only [choicesL, key, Int.zero_add]
  constructor
  ·rintro ⟨j, o, h1, h2⟩
   obtain ⟨s, e, hs, hh⟩ := mem_choicesL.1 h2
   have hj := (List.getElem?_eq_some_iff.1 h1).1
   refine ⟨(j : Int) :: s, by rw [e]; simp, ?_, ?_⟩
   ·simp only [choiceB, Bool.and_eq_true]
    exact ⟨idxB_of_lt hj, hs⟩
   ·simp only [sumH, Int.toNat_natCast, h1, Option.getD_some]
    omega
  ·rintro ⟨s, e, hs, hh⟩
   cases s with
   | nil => simp [choiceB] at hs
   | cons k s =>
    simp only [choiceB, Bool.and_eq_true] at hs
    obtain ⟨j, rfl, hj⟩ := idxB_nat hs.1
    refine ⟨j, x.opts[j], List.getElem?_eq_getElem hj, mem_choicesL.2 ⟨s, by rw [e]; simp, hs.2, ?_⟩⟩
    simp only [sumH, Int.toNat_natCast, List.getElem?_eq_getElem hj, Option.getD_some] at hh
    omega
theorem okFrom_free (t : List WishD) (p : List Int) : okFrom t 0 p = freeB t p := by
 unfold okFrom freeB
 rw [Bool.eq_iff_iff, List.all_eq_true, List.all_eq_true]
 refine ⟨fun h d hd => ?_, fun h d hd => ?_⟩ <;>
 ·have := h d hd
  simp at this ⊢
  omega
theorem mem_lawfulL {t : List WishD} (hv : validT t = 0) {c : List Int × Int} : c ∈ lawfulL t ↔ lawfulB t c.1 = true ∧ c.2 = sumH t c.1 := by
 unfold lawfulL
 rw [List.mem_filter, mem_choicesL, okFrom_free]
 simp only [lawfulB, hv, decide_true, Bool.true_and, Bool.and_eq_true]
 constructor
 ·rintro ⟨⟨s, h1, h2, h3⟩, h4⟩
  simp at h1
  subst h1
  exact ⟨⟨h2, h4⟩, by omega⟩
 ·rintro ⟨⟨h1, h2⟩, h3⟩
  exact ⟨⟨c.1, by simp, h1, by omega⟩, h2⟩
theorem bestOf_spec {t : List WishD} (hv : validT t = 0) {p : List Int} {h : Int} (hb : bestOf t = some (p, h)) :
  lawfulB t p = true ∧ h = sumH t p ∧ ∀ q, lawfulB t q = true → h ≤ sumH t q := by
 obtain ⟨h1, h2, _⟩ := foldFound_spec _ _ _ hb
 rcases h1 with h1 | h1
 ·have := (mem_lawfulL hv).1 h1
  exact ⟨this.1, this.2, fun q hq => h2 (q, sumH t q) ((mem_lawfulL hv).2 ⟨hq, rfl⟩)⟩
 ·cases h1
theorem bestOf_none {t : List WishD} (hv : validT t = 0) (hb : lawfulL t = []) (q : List Int) : lawfulB t q = false := by
 cases h : lawfulB t q with
 | false => rfl
 | true =>
  have := (mem_lawfulL hv (c := (q, sumH t q))).2 ⟨h, rfl⟩
  rw [hb] at this
  cases this
end Go.Proofs.YtepcdhpikpmepaaGreat

/- The plain law of certificates: the standard tree is well-formed, and right for every bound that its leaves reach. -/
namespace Go.Proofs.YtepcdhpikpmepaaGreat
open Go.RowKit

/-! ### the counts of the parents -/
def allKids (c : List NodeD) : List Int := c.flatMap NodeD.kids
theorem allKids_append (a b : List NodeD) : allKids (a ++ b) = allKids a ++ allKids b := by simp [allKids]
theorem allKids_cons (a : NodeD) (b : List NodeD) : allKids (a :: b) = a.kids ++ allKids b := by simp [allKids]
def addC (l : List Int) (ps : List Int) : List Int := ps.mapIdx fun j v => v + (l.count (j : Int) : Nat)
theorem addC_len (l ps : List Int) : (addC l ps).length = ps.length := by simp [addC]
theorem addC_nil (ps : List Int) : addC [] ps = ps := by
 unfold addC
 apply List.ext_getElem? 
 intro i
 simp
theorem addC_add (a b ps : List Int) : addC b (addC a ps) = addC (a ++ b) ps := by
 unfold addC
 apply List.ext_getElem?
 intro i
 simp only [List.getElem?_mapIdx, List.count_append]
 cases ps[i]? <;> simp
 omega
theorem tickKids_ok {n i : Int} : ∀ {l ps : List Int}, (∀ k ∈ l, i < k ∧ k < n) → 0 ≤ i → tickKids n i l ps = some (addC l ps)
 | [], ps, _, _ => by rw [addC_nil]; rfl
 | k :: r, ps, h, hi => by
  have hk := h k List.mem_cons_self
  simp only [tickKids]
  rw [if_neg (by omega), tickKids_ok (fun k' hk' => h k' (List.mem_cons_of_mem _ hk')) hi]
  congr 1
  obtain ⟨m, rfl⟩ : ∃ m : Nat, k = m := ⟨k.toNat, by omega⟩
  have e : ps.set m (ps[m]?.getD 0 + 1) = addC [(m : Int)] ps := by
   unfold addC
   apply List.ext_getElem?
   intro j
   rw [List.getElem?_set, List.getElem?_mapIdx]
   by_cases hj : m = j
   ·subst hj
    by_cases hl : m < ps.length
    ·simp [hl]
    ·simp [hl]
   ·have hj' : ¬ (m : Int) = j := by omega
    rw [if_neg hj]
    cases ps[j]? <;> simp [hj']
  rw [Int.toNat_natCast, e, addC_add]
  rfl
theorem tickAll_ok {n : Int} : ∀ {c : List NodeD} {i : Int} {ps : List Int}, (∀ (j : Nat) (x : NodeD), c[j]? = some x → ∀ k ∈ x.kids, i + j < k ∧ k < n) → 0 ≤ i → tickAll n c i ps = some (addC (allKids c) ps)
 | [], i, ps, _, _ => by simp [tickAll, allKids, addC_nil]
 | x :: r, i, ps, h, hi => by
  simp only [tickAll]
  rw [tickKids_ok (fun k hk => by have := h 0 x rfl k hk; omega) hi]
  simp only
  rw [tickAll_ok (fun j y hy k hk => by have := h (j + 1) y (by simpa using hy) k hk; omega) (by omega), addC_add, allKids_cons]
theorem formed_of {c : List NodeD} (h0 : 0 < c.length) (h1 : c.length ≤ 65536) (h2 : ∀ (j : Nat) (x : NodeD), c[j]? = some x → ∀ k ∈ x.kids, (j : Int) < k ∧ k < c.length)
  (h3 : ∀ j : Nat, 1 ≤ j → j < c.length → (allKids c).count (j : Int) = 1) : formedB c = true := by
 unfold formedB
 rw [if_neg (by omega), tickAll_ok (fun j x hx k hk => by have := h2 j x hx k hk; omega) (Int.le_refl 0)]
 simp only [tickOk, Bool.not_eq_true', List.any_eq_false]
 intro v hv
 rw [List.mem_iff_getElem?] at hv
 obtain ⟨j, hj⟩ := hv
 rw [List.getElem?_drop] at hj
 have hlt := (List.getElem?_eq_some_iff.1 hj).1
 rw [addC_len, zerosL_len] at hlt
 unfold addC at hj
 rw [List.getElem?_mapIdx, show (zerosL c.length)[1 + j]? = some 0 by simp [zerosL, hlt]] at hj
 have := h3 (1 + j) (by omega) hlt
 simp only [Option.map_some, this, Option.some.injEq] at hj
 subst hj
 decide

/-! ### the standard tree is well-formed -/
theorem ite_out {c : Prop} [Decidable c] {x : Nat} (h : x = if c then 1 else 0) : (c ∧ x = 1) ∨ (¬ c ∧ x = 0) := by
 split at h
 ·exact Or.inl ⟨by assumption, h⟩
 ·exact Or.inr ⟨by assumption, h⟩
theorem ite_in {c : Prop} [Decidable c] {x : Nat} (h : (c ∧ x = 1) ∨ (¬ c ∧ x = 0)) : x = if c then 1 else 0 := by
 rcases h with ⟨h1, h2⟩ | ⟨h1, h2⟩
 ·rw [if_pos h1]; exact h2
 ·rw [if_neg h1]; exact h2
theorem kidsG_count {f : Int → OptD → Nat → Res} (hf : ∀ i o N, ∀ j : Int, (allKids (f i o N).nodes).count j = if (N : Int) + 1 ≤ j ∧ j < N + (f i o N).nodes.length then 1 else 0) (hp : ∀ i o N, 0 < (f i o N).nodes.length) :
  ∀ (l : List OptD) (i : Int) (N : Nat) (j : Int), (kidsG f l i N).kids.count j + (allKids (kidsG f l i N).nodes).count j = if (N : Int) ≤ j ∧ j < N + (kidsG f l i N).nodes.length then 1 else 0
 | [], i, N, j => ite_in (by simp [kidsG, allKids])
 | o :: r, i, N, j => by
  have h1 := ite_out (hf i o N j)
  have h2 := ite_out (kidsG_count hf hp r (i + 1) (N + (f i o N).nodes.length) j)
  have h3 := hp i o N
  refine ite_in ?_
  simp only [kidsG, allKids_append, List.count_append, List.length_append]
  generalize (allKids (f i o N).nodes).count j = X at *
  generalize (f i o N).nodes.length = m at *
  generalize (kidsG f r (i + 1) (N + m)).nodes.length = q at *
  generalize (allKids (kidsG f r (i + 1) (N + m)).nodes).count j = B at *
  by_cases e : (N : Int) = j
  ·rw [← e, List.count_cons_self]
   rw [← e] at h1 h2
   generalize (kidsG f r (i + 1) (N + m)).kids.count (N : Int) = A at *
   omega
  ·rw [List.count_cons_of_ne e]
   generalize (kidsG f r (i + 1) (N + m)).kids.count j = A at *
   omega
theorem growL_count (t : List WishD) (b : Int) : ∀ (l : List WishD) (pre : List Int) (harm : Int) (N : Nat) (j : Int),
  (allKids (growL t b l pre harm N).nodes).count j = if (N : Int) + 1 ≤ j ∧ j < N + (growL t b l pre harm N).nodes.length then 1 else 0
 | [], pre, harm, N, j => by
  refine ite_in ?_
  simp only [growL]
  (repeat' split) <;> exact Or.inr ⟨by dsimp only [List.length_cons, List.length_nil]; omega, rfl⟩
 | x :: r, pre, harm, N, j => by
  refine ite_in ?_
  simp only [growL]
  split
  ·exact Or.inr ⟨by dsimp only [List.length_cons, List.length_nil]; omega, rfl⟩
  ·split
   ·exact Or.inr ⟨by dsimp only [List.length_cons, List.length_nil]; omega, rfl⟩
   ·have := ite_out (kidsG_count (f := fun i o N' => growL t b r (pre ++ [i]) (harm + o.harm) N') (fun i o N' j => growL_count t b r _ _ N' j) (fun i o N' => growL_pos t b r _ _ N') x.opts 0 (N + 1) j)
    simp only [allKids_cons, List.count_append, List.length_cons] at this ⊢
    omega
theorem kidsG_kids {f : Int → OptD → Nat → Res} (hp : ∀ i o N, 0 < (f i o N).nodes.length) : ∀ (l : List OptD) (i : Int) (N : Nat), ∀ k ∈ (kidsG f l i N).kids, (N : Int) ≤ k ∧ k < N + (kidsG f l i N).nodes.length
 | [], i, N, k, hk => by cases hk
 | o :: r, i, N, k, hk => by
  have h3 := hp i o N
  simp only [kidsG, List.length_append] at hk ⊢
  rcases List.mem_cons.1 hk with rfl | hk
  ·omega
  ·have := kidsG_kids hp r (i + 1) _ k hk
   omega
theorem kidsG_in {f : Int → OptD → Nat → Res} (hf : ∀ i o N, ∀ (q : Nat) (x : NodeD), (f i o N).nodes[q]? = some x → ∀ k ∈ x.kids, (N : Int) + q < k ∧ k < N + (f i o N).nodes.length) :
  ∀ (l : List OptD) (i : Int) (N : Nat) (q : Nat) (x : NodeD), (kidsG f l i N).nodes[q]? = some x → ∀ k ∈ x.kids, (N : Int) + q < k ∧ k < N + (kidsG f l i N).nodes.length
 | [], i, N, q, x, hx, k, hk => by simp [kidsG] at hx
 | o :: r, i, N, q, x, hx, k, hk => by
  simp only [kidsG, List.length_append] at hx ⊢
  rw [List.getElem?_append] at hx
  split at hx
  ·have := hf i o N q x hx k hk
   omega
  ·have := kidsG_in hf r (i + 1) _ _ x hx k hk
   omega
theorem growL_in (t : List WishD) (b : Int) : ∀ (l : List WishD) (pre : List Int) (harm : Int) (N : Nat) (q : Nat) (x : NodeD),
  (growL t b l pre harm N).nodes[q]? = some x → ∀ k ∈ x.kids, (N : Int) + q < k ∧ k < N + (growL t b l pre harm N).nodes.length
 | [], pre, harm, N, q, x, hx, k, hk => by
  simp only [growL] at hx
  have hm := List.mem_of_getElem? hx
  (repeat' split at hm) <;> (simp [leafN] at hm; subst hm; cases hk)
 | y :: r, pre, harm, N, q, x, hx, k, hk => by
  simp only [growL] at hx ⊢
  split at hx
  ·have hm := List.mem_of_getElem? hx
   simp at hm; subst hm; cases hk
  ·split at hx
   ·have hm := List.mem_of_getElem? hx
    simp [leafN] at hm; subst hm; cases hk
   ·rename_i h1 h2
    rw [if_neg h1, if_neg h2]
    simp only [List.length_cons]
    cases q with
    | zero =>
     simp at hx
     subst hx
     have := kidsG_kids (f := fun i o N' => growL t b r (pre ++ [i]) (harm + o.harm) N') (fun i o N' => growL_pos t b r _ _ N') y.opts 0 (N + 1) k hk
     omega
    | succ q =>
     have := kidsG_in (f := fun i o N' => growL t b r (pre ++ [i]) (harm + o.harm) N') (fun i o N' q x hx => growL_in t b r _ _ N' q x hx) y.opts 0 (N + 1) q x (by simpa using hx) k hk
     omega
theorem growL_formed (t : List WishD) (b : Int) (h : treeMax t ≤ 65536) : formedB (growL t b t [] 0 0).nodes = true := by
 refine formed_of (growL_pos t b t [] 0 0) (Nat.le_trans (growL_len t b t [] 0 0) h) (fun j x hx k hk => ?_) (fun j h1 h2 => ?_)
 ·have := growL_in t b t [] 0 0 j x hx k hk
  omega
 ·rw [growL_count, if_pos (by omega)]

/-! ### and right -/
theorem lastClash_spec {t : List WishD} {pre : List Int} (h : 0 ≤ lastClash t pre) : ∃ i : Nat, lastClash t pre = i ∧ i + 1 < pre.length ∧ clashAt t pre i (pre.length - 1) = true := by
 unfold lastClash at h ⊢
 split at h
 ·omega
 ·rename_i h0
  rw [if_neg h0]
  unfold earlierI findI at h ⊢
  cases hf : (List.range (pre.length - 1)).findIdx? fun i => clashAt t pre i (pre.length - 1) with
  | none => rw [hf] at h; simp at h
  | some i =>
   rw [List.findIdx?_eq_some_iff_getElem] at hf
   obtain ⟨h1, h2, _⟩ := hf
   refine ⟨i, rfl, by simp at h1; omega, ?_⟩
   simpa using h2
def decOf (t : List WishD) (pre : List Int) : List Int := pre ++ List.replicate (t.length - pre.length) (-1)
theorem decOf_set {t : List WishD} {pre : List Int} (h : pre.length < t.length) (i : Int) : (decOf t pre).set pre.length i = decOf t (pre ++ [i]) := by
 unfold decOf
 obtain ⟨k, hk⟩ : ∃ k, t.length - pre.length = k + 1 := ⟨t.length - pre.length - 1, by omega⟩
 rw [hk, List.set_append_right _ _ (Nat.le_refl _), List.length_append, show t.length - (pre.length + [i].length) = k by simp; omega]
 simp [List.replicate_succ]
theorem decOf_at {t : List WishD} {pre : List Int} {j : Nat} (h : j < pre.length) : decAt (decOf t pre) j = pre[j]?.getD 0 := by
 simp [decAt, decOf, List.getElem?_append_left h]
theorem optOf_dec {t : List WishD} {pre : List Int} {j : Nat} (h : j < pre.length) : optOf t (decOf t pre) j = optOf t pre j := by
 simp [optOf, decOf, List.getElem?_append_left h]
theorem clashAt_dec {t : List WishD} {pre : List Int} {i j : Nat} (hi : i < pre.length) (hj : j < pre.length) : clashAt t (decOf t pre) i j = clashAt t pre i j := by
 simp [clashAt, optOf_dec hi, optOf_dec hj]
def Part (c : List NodeD) (N : Nat) (l : List NodeD) : Prop := ∀ q x, l[q]? = some x → c[N + q]? = some x
theorem Part.left {c : List NodeD} {N : Nat} {a b : List NodeD} (h : Part c N (a ++ b)) : Part c N a := fun q x hx => h q x (by rw [List.getElem?_append_left (List.getElem?_eq_some_iff.1 hx).1]; exact hx)
theorem Part.right {c : List NodeD} {N : Nat} {a b : List NodeD} (h : Part c N (a ++ b)) : Part c (N + a.length) b := fun q x hx => by
 have := h (a.length + q) x (by rw [List.getElem?_append_right (by omega)]; simpa using hx)
 rw [Nat.add_assoc]
 exact this
theorem kidsR_grow {c : List NodeD} {g : Int → Int → OptD → Bool} {f : Int → OptD → Nat → Res} {b : Int} {M : Nat} (hg : ∀ i o N, 0 ≤ i → (f i o N).nodes.length ≤ M → Part c N (f i o N).nodes → (∀ e ∈ (f i o N).ests, b ≤ e) → (∀ e ∈ (f i o N).opens, b ≤ e.2) → g i N o = true) :
  ∀ (l : List OptD) (i : Int) (N : Nat), 0 ≤ i → (kidsG f l i N).nodes.length ≤ M → Part c N (kidsG f l i N).nodes → (∀ e ∈ (kidsG f l i N).ests, b ≤ e) → (∀ e ∈ (kidsG f l i N).opens, b ≤ e.2) → kidsR g i (kidsG f l i N).kids l = true
 | [], i, N, _, _, _, _, _ => rfl
 | o :: r, i, N, h0, hM, hp, he, ho => by
  simp only [kidsG, List.length_append] at hM hp he ho ⊢
  simp only [kidsR, Bool.and_eq_true]
  exact ⟨hg i o N h0 (by omega) hp.left (fun e h => he e (List.mem_append_left _ h)) (fun e h => ho e (List.mem_append_left _ h)),
   kidsR_grow hg r (i + 1) _ (by omega) (by omega) hp.right (fun e h => he e (List.mem_append_right _ h)) (fun e h => ho e (List.mem_append_right _ h))⟩
theorem right_grow (t : List WishD) (b B : Int) (c : List NodeD) : ∀ (l : List WishD) (pre : List Int) (harm : Int) (N : Nat) (f : Nat), (growL t B l pre harm N).nodes.length ≤ f → t.drop pre.length = l → pre.length + l.length = t.length → (∀ k ∈ pre, 0 ≤ k) →
  Part c N (growL t B l pre harm N).nodes → (∀ e ∈ (growL t B l pre harm N).ests, b ≤ e) → (∀ e ∈ (growL t B l pre harm N).opens, b ≤ e.2) → rightP t b c f (decOf t pre) (leastSum l) N harm = true
 | l, pre, harm, N, 0, hf, _, _, _, _, _, _ => by have := growL_pos t B l pre harm N; omega
 | l, pre, harm, N, f + 1, hf, hd, hl, hpre, hp, he, ho => by
  have clash : ∀ hc : 0 ≤ lastClash t pre, c[N]? = some ⟨-1, [], lastClash t pre, (pre.length : Int) - 1⟩ → rightP t b c (f + 1) (decOf t pre) (leastSum l) N harm = true := by
   intro hc hn
   obtain ⟨i, e, h1, h2⟩ := lastClash_spec hc
   simp only [rightP, hn]
   rw [if_pos trivial]
   have e2 : (pre.length : Int) - 1 = ((pre.length - 1 : Nat) : Int) := by omega
   simp only [List.length_nil, beq_self_eq_true, Bool.true_and, closedB, e, e2]
   have i1 : idxB (i : Int) t.length = true := idxB_of_lt (by omega)
   have i2 : idxB ((pre.length - 1 : Nat) : Int) t.length = true := idxB_of_lt (by omega)
   rw [if_neg (by omega), if_neg (by rw [i1, i2]; simp; omega)]
   have d1 : 0 ≤ decAt (decOf t pre) i := by
    rw [decOf_at (by omega), List.getElem?_eq_getElem (by omega)]
    exact hpre _ (List.getElem_mem _)
   have d2 : 0 ≤ decAt (decOf t pre) ((pre.length - 1 : Nat) : Int) := by
    rw [decOf_at (by omega), List.getElem?_eq_getElem (by omega)]
    exact hpre _ (List.getElem_mem _)
   simp only [Int.toNat_natCast, d1, d2, decide_true, Bool.true_and]
   rw [clashAt_dec (by omega) (by omega)]
   exact h2
  have leaf : b ≤ harm + leastSum l → c[N]? = some leafN → rightP t b c (f + 1) (decOf t pre) (leastSum l) N harm = true := by
   intro hb hn
   simp only [rightP, hn, leafN]
   simp [closedB, hb]
  cases l with
  | nil =>
   simp only [growL] at hp he ho
   split at hp
   ·rename_i hc
    exact clash hc (by simpa using hp 0 _ rfl)
   ·rename_i hc
    split at hp
    ·rename_i hb
     rw [if_neg hc, if_pos hb] at he
     exact leaf (by have := he harm (by simp); simp [leastSum]; exact this) (by simpa using hp 0 _ rfl)
    ·rename_i hb
     rw [if_neg hc, if_neg hb] at ho
     exact leaf (by have := ho (pre, harm) (by simp); simp [leastSum]; exact this) (by simpa using hp 0 _ rfl)
  | cons x r =>
   simp only [growL] at hp he ho
   split at hp
   ·rename_i hc
    exact clash hc (by simpa using hp 0 _ rfl)
   ·rename_i hc
    split at hp
    ·rename_i hb
     rw [if_neg hc, if_pos hb] at he
     exact leaf (he _ (by simp)) (by simpa using hp 0 _ rfl)
    ·rename_i hb
     rw [if_neg hc, if_neg hb] at he ho
     have hn := hp 0 _ rfl
     rw [Nat.add_zero] at hn
     simp only [growL] at hf
     rw [if_neg hc, if_neg hb] at hf
     simp only [List.length_cons] at hl hf
     have hlt : pre.length < t.length := by omega
     have hx : t[pre.length]? = some x := by
      have := congrArg (fun l => l[0]?) hd
      simpa using this
     have hdn : t.drop (pre.length + 1) = r := by
      have := congrArg List.tail hd
      simpa using this
     simp only [rightP, hn]
     rw [if_neg (by omega), idxB_of_lt hlt]
     simp only [Int.toNat_natCast, hx]
     rw [if_neg (by simp)]
     have hdec : decAt (decOf t pre) (pre.length : Int) = -1 := by
      obtain ⟨k, hk⟩ : ∃ k, t.length - pre.length = k + 1 := ⟨t.length - pre.length - 1, by omega⟩
      simp [decAt, decOf, hk, List.replicate_succ]
     rw [if_neg (by rw [hdec, kidsG_kids_len]; simp)]
     refine kidsR_grow (c := c) (b := b) (M := f) (fun i o N' hi0 hM hpart he' ho' => ?_) x.opts 0 (N + 1) (Int.le_refl _) (by omega) (fun q y hy => ?_) he ho
     ·have h1 := right_grow t b B c r (pre ++ [i]) (harm + o.harm) N' f hM (by rw [List.length_append]; exact hdn) (by simp; omega) (fun k hk => by
       rcases List.mem_append.1 hk with h | h
       ·exact hpre k h
       ·simp at h; omega) hpart he' ho'
      rw [decOf_set hlt, show leastSum (x :: r) - leastB x = leastSum r by simp [leastSum], Int.toNat_natCast]
      exact h1
     ·have := hp (q + 1) y (by simpa using hy)
      rw [show N + (q + 1) = N + 1 + q by omega] at this
      exact this
theorem check_grow {t : List WishD} {b B : Int} (hv : validT t = 0) (hm : treeMax t ≤ 65536) (he : ∀ e ∈ (growL t B t [] 0 0).ests, b ≤ e) (ho : ∀ e ∈ (growL t B t [] 0 0).opens, b ≤ e.2) :
  checkT t b (growL t B t [] 0 0).nodes = 0 := by
 unfold checkT
 rw [if_neg (by simp [hv]), if_neg (by rw [growL_formed t B hm]; simp)]
 have h := right_grow t b B (growL t B t [] 0 0).nodes t [] 0 0 _ (Nat.le_refl _) rfl (by simp) (by simp) (fun q x hx => by rw [Nat.zero_add]; exact hx) he ho
 simp only [decOf, List.nil_append, List.length_nil, Nat.sub_zero] at h
 rw [if_pos h]
theorem cert_small {t : List WishD} {p : List Int} {h b : Int} (hv : validT t = 0) (hm : treeMax t ≤ 65536) (hb : bestOf t = some (p, h)) (hle : b ≤ h) : checkT t b (growL t h t [] 0 0).nodes = 0 := by
 refine check_grow hv hm (fun e he => ?_) (fun e he => ?_)
 ·have := (growL_ests t h t (harms_of hv) [] 0 0 e he).1
  omega
 ·rw [opens_lawful, List.mem_filter] at he
  have h1 := (mem_lawfulL hv).1 he.1
  have h2 := (bestOf_spec hv hb).2.2 e.1 h1.1
  have h3 := h1.2
  simp at he
  omega
theorem cert_great {t : List WishD} {p : List Int} {h b B : Int} (hv : validT t = 0) (hm : treeMax t ≤ 65536) (hb : bestOf t = some (p, h)) (hgt : h < b) : checkT t b (growL t B t [] 0 0).nodes = 11 := by
 have h1 := bestOf_spec hv hb
 have h2 : checkT t b (growL t B t [] 0 0).nodes ≠ 0 := fun h0 => by
  have := check_sound h0 h1.1
  omega
 unfold checkT at h2 ⊢
 rw [if_neg (by simp [hv]), if_neg (by rw [growL_formed t B hm]; simp)] at h2 ⊢
 split at h2
 ·exact absurd rfl h2
 ·rename_i hr
  rw [if_neg hr]
theorem kidsG_opts {f : Int → OptD → Nat → Res} {m : Nat} (hf : ∀ i o N, ∀ n ∈ (f i o N).nodes, n.kids.length ≤ m) : ∀ (l : List OptD) (i : Int) (N : Nat), ∀ n ∈ (kidsG f l i N).nodes, n.kids.length ≤ m
 | [], _, _, n, hn => by cases hn
 | o :: r, i, N, n, hn => by
  simp only [kidsG, List.mem_append] at hn
  rcases hn with h | h
  ·exact hf i o N n h
  ·exact kidsG_opts hf r _ _ n h
theorem growL_kids (t : List WishD) (b : Int) (m : Nat) : ∀ (l : List WishD), (∀ x ∈ l, x.opts.length ≤ m) → ∀ (pre : List Int) (harm : Int) (N : Nat), ∀ n ∈ (growL t b l pre harm N).nodes, n.kids.length ≤ m
 | [], _, pre, harm, N, n, hn => by
  simp only [growL] at hn
  (repeat' split at hn) <;> (simp [leafN] at hn; subst hn; simp)
 | x :: r, h, pre, harm, N, n, hn => by
  simp only [growL] at hn
  split at hn
  ·simp at hn; subst hn; simp
  ·split at hn
   ·simp [leafN] at hn; subst hn; simp
   ·rcases List.mem_cons.1 hn with rfl | hn
    ·simp only [kidsG_kids_len]; exact h x List.mem_cons_self
    ·exact kidsG_opts (f := fun i o N' => growL t b r (pre ++ [i]) (harm + o.harm) N') (fun i o N' n hn => growL_kids t b m r (fun y hy => h y (List.mem_cons_of_mem _ hy)) _ _ N' n hn) x.opts 0 (N + 1) n hn
end Go.Proofs.YtepcdhpikpmepaaGreat

/- The plain law of the best plan: of those with its harm it is the first in lexicographic order. -/
namespace Go.Proofs.YtepcdhpikpmepaaGreat
open Go.RowKit

def LexB : List Int → List Int → Prop
 | a :: ar, b :: br => a < b ∨ (a = b ∧ LexB ar br)
 | _, _ => False
theorem LexB.pre : ∀ (p : List Int) {s s' : List Int}, LexB s s' → LexB (p ++ s) (p ++ s')
 | [], _, _, h => h
 | _ :: p, _, _, h => Or.inr ⟨rfl, LexB.pre p h⟩
theorem LexB.at_ : ∀ {a b : List Int} {i : Nat} {x y : Int}, LexB a b → a.take i = b.take i → a[i]? = some x → b[i]? = some y → x ≠ y → x < y
 | [], b, i, x, y, h, _, _, _, _ => by cases b <;> cases h
 | _ :: _, [], i, x, y, h, _, _, _, _ => by cases h
 | a :: ar, b :: br, 0, x, y, h, _, hx, hy, hne => by
  simp at hx hy
  subst hx hy
  rcases h with h | ⟨h, _⟩
  ·exact h
  ·exact absurd h hne
 | a :: ar, b :: br, i + 1, x, y, h, ht, hx, hy, hne => by
  simp only [List.take_succ_cons, List.cons.injEq] at ht
  rcases h with h | ⟨_, h⟩
  ·omega
  ·exact LexB.at_ h ht.2 (by simpa using hx) (by simpa using hy) hne
theorem kidsC_pairwise {R : (List Int × Int) → (List Int × Int) → Prop} {f : Int → OptD → List (List Int × Int)} (h1 : ∀ i o, (f i o).Pairwise R) (h2 : ∀ i j o o', i < j → ∀ c ∈ f i o, ∀ d ∈ f j o', R c d) :
  ∀ (l : List OptD) (i : Int), (kidsC f l i).Pairwise R ∧ ∀ d ∈ kidsC f l i, ∃ j o, i ≤ j ∧ d ∈ f j o
 | [], i => ⟨List.Pairwise.nil, fun d hd => by cases hd⟩
 | o :: r, i => by
  obtain ⟨a, b⟩ := kidsC_pairwise h1 h2 r (i + 1)
  refine ⟨?_, ?_⟩
  ·simp only [kidsC]
   rw [List.pairwise_append]
   refine ⟨h1 i o, a, fun c hc d hd => ?_⟩
   obtain ⟨j, o', hj, hd'⟩ := b d hd
   exact h2 i j o o' (by omega) c hc d hd'
  ·intro d hd
   simp only [kidsC, List.mem_append] at hd
   rcases hd with hd | hd
   ·exact ⟨i, o, Int.le_refl _, hd⟩
   ·obtain ⟨j, o', hj, hd'⟩ := b d hd
    exact ⟨j, o', by omega, hd'⟩
theorem choicesL_sorted : ∀ (l : List WishD) (pre : List Int) (harm : Int), (choicesL l pre harm).Pairwise fun c d => LexB c.1 d.1
 | [], pre, harm => by simp [choicesL]
 | x :: r, pre, harm => by
  simp only [choicesL]
  refine (kidsC_pairwise (fun i o => choicesL_sorted r (pre ++ [i]) (harm + o.harm)) (fun i j o o' hij c hc d hd => ?_) x.opts 0).1
  obtain ⟨s, e, _⟩ := choicesL_pre hc
  obtain ⟨s', e', _⟩ := choicesL_pre hd
  rw [e, e', List.append_assoc, List.append_assoc]
  exact LexB.pre pre (Or.inl hij)
theorem foldFound_first : ∀ (l : List (List Int × Int)) (f : Option (List Int × Int)) (r : List Int × Int), foldFound f l = some r →
  f = some r ∨ ∃ l1 l2, l = l1 ++ r :: l2 ∧ (∀ x ∈ l1, r.2 < x.2) ∧ ∀ y, f = some y → r.2 < y.2
 | [], f, r, h => Or.inl h
 | x :: l, f, r, h => by
  have h' : foldFound (stepFound f x) l = some r := h
  rcases foldFound_first l _ r h' with h1 | ⟨l1, l2, e, h1, h2⟩
  ·cases f with
   | none =>
    simp only [stepFound, Option.some.injEq] at h1
    subst h1
    exact Or.inr ⟨[], l, rfl, by simp, by simp⟩
   | some z =>
    simp only [stepFound] at h1
    split at h1
    ·rename_i hlt
     cases h1
     exact Or.inr ⟨[], l, rfl, by simp, fun y hy => by cases hy; exact hlt⟩
    ·exact Or.inl h1
  ·right
   cases f with
   | none => exact ⟨x :: l1, l2, by rw [e]; rfl, fun y hy => by
     rcases List.mem_cons.1 hy with rfl | hy
     ·exact h2 y rfl
     ·exact h1 y hy, by simp⟩
   | some z =>
    by_cases hxz : x.2 < z.2
    ·have hx := h2 x (by simp [stepFound, hxz])
     refine ⟨x :: l1, l2, by rw [e]; rfl, fun y hy => ?_, fun y hy => by cases hy; omega⟩
     rcases List.mem_cons.1 hy with rfl | hy
     ·exact hx
     ·exact h1 y hy
    ·have hz := h2 z (by simp [stepFound, hxz])
     refine ⟨x :: l1, l2, by rw [e]; rfl, fun y hy => ?_, fun y hy => by cases hy; exact hz⟩
     rcases List.mem_cons.1 hy with rfl | hy
     ·omega
     ·exact h1 y hy
theorem bestOf_first {t : List WishD} (hv : validT t = 0) {p q : List Int} {h : Int} (hb : bestOf t = some (p, h)) (hq : lawfulB t q = true) (hh : sumH t q ≤ h) : q = p ∨ LexB p q := by
 have hmem := (mem_lawfulL hv (c := (q, sumH t q))).2 ⟨hq, rfl⟩
 rcases foldFound_first _ _ _ hb with h1 | ⟨l1, l2, e, h1, _⟩
 ·cases h1
 ·have hs : (lawfulL t).Pairwise fun c d => LexB c.1 d.1 := (choicesL_sorted t [] 0).filter _
  rw [e] at hmem hs
  rcases List.mem_append.1 hmem with hm | hm
  ·have := h1 _ hm
   dsimp only at this
   omega
  ·rcases List.mem_cons.1 hm with hm | hm
   ·left
    cases hm
    rfl
   ·right
    rw [List.pairwise_append] at hs
    exact (List.pairwise_cons.1 hs.2.1).1 _ hm
end Go.Proofs.YtepcdhpikpmepaaGreat
