/- The plain law of PlanWithoutClashes: where no options can clash each wish gets its first option of the least harm. -/
import Derived.Test.YtonmlmkemliefaaPM
import Derived.Test.YtonmlmkemliefaaMonoP
namespace Go.Proofs.Ytonmlmkemliefaa
open Go.RowKit

def calmO (o : OptD) : OptD := { o with room := -1 }
def calmW (i : Nat) (x : WishD) : WishD := ⟨x.meeting, [100 + (i : Int)], x.opts.map calmO⟩
def calmFrom : Nat → List WishD → List WishD
  | _, [] => []
  | i, x :: r => calmW i x :: calmFrom (i + 1) r
theorem calmFrom_len : ∀ (l : List WishD) (i : Nat), (calmFrom i l).length = l.length
  | [], _ => rfl
  | _ :: r, i => by simp [calmFrom, calmFrom_len r (i + 1)]
theorem calmFrom_get : ∀ (l : List WishD) (i j : Nat), (calmFrom i l)[j]? = (l[j]?).map (calmW (i + j))
  | [], _, _ => by simp [calmFrom]
  | x :: r, i, 0 => by simp [calmFrom]
  | x :: r, i, j + 1 => by simp only [calmFrom, List.getElem?_cons_succ]; rw [calmFrom_get r (i + 1) j, show i + 1 + j = i + (j + 1) by omega]
theorem calmFrom_mem {l : List WishD} {i : Nat} {y : WishD} (h : y ∈ calmFrom i l) : ∃ j x, l[j]? = some x ∧ y = calmW (i + j) x := by
  obtain ⟨j, hj⟩ := List.mem_iff_getElem?.1 h
  rw [calmFrom_get, Option.map_eq_some_iff] at hj
  obtain ⟨x, h1, h2⟩ := hj
  exact ⟨j, x, h1, h2.symm⟩
/-- the first option of the least harm, of the first n -/
def firstTo (l : List OptD) : Nat → Nat
  | 0 => 0
  | k + 1 => if (l[k]?.getD default).harm < (l[firstTo l k]?.getD default).harm then k else firstTo l k
theorem firstTo_spec (l : List OptD) : ∀ n, 0 < n → firstTo l n < n ∧ (∀ j, j < n → (l[firstTo l n]?.getD default).harm ≤ (l[j]?.getD default).harm) ∧ ∀ j, j < firstTo l n → (l[firstTo l n]?.getD default).harm < (l[j]?.getD default).harm
  | 0, h => by omega
  | 1, _ => by
    have : firstTo l 1 = 0 := by simp [firstTo]
    rw [this]
    refine ⟨by omega, fun j hj => ?_, fun j hj => by omega⟩
    obtain rfl : j = 0 := by omega
    exact Int.le_refl _
  | n + 2, _ => by
    obtain ⟨h1, h2, h3⟩ := firstTo_spec l (n + 1) (by omega)
    have e : firstTo l (n + 2) = if (l[n + 1]?.getD default).harm < (l[firstTo l (n + 1)]?.getD default).harm then n + 1 else firstTo l (n + 1) := rfl
    rw [e]
    split
    · rename_i hlt
      refine ⟨by omega, fun j hj => ?_, fun j hj => ?_⟩
      · by_cases hj' : j = n + 1
        · subst hj'; exact Int.le_refl _
        · have := h2 j (by omega); omega
      · have := h2 j (by omega); omega
    · rename_i hlt
      refine ⟨by omega, fun j hj => ?_, h3⟩
      by_cases hj' : j = n + 1
      · subst hj'; omega
      · exact h2 j (by omega)
theorem firstTo_le (l : List OptD) (n : Nat) : firstTo l n ≤ n := by
  by_cases h : 0 < n
  · have := (firstTo_spec l n h).1; omega
  · obtain rfl : n = 0 := by omega
    simp [firstTo]
def firstW (x : WishD) : Nat := firstTo x.opts x.opts.length
def wantT (t : List WishD) : List Int := t.map fun x => (firstW x : Int)
def totalT (t : List WishD) : Int := sumH t (wantT t)

theorem calm_choice : ∀ {t : List WishD} {p : List Int} {i : Nat}, choiceB (calmFrom i t) p = choiceB t p
  | [], p, i => rfl
  | x :: t, [], i => rfl
  | x :: t, k :: p, i => by simp [calmFrom, choiceB, calmW, calm_choice (t := t) (p := p) (i := i + 1)]
theorem calm_harm (l : List OptD) (n : Nat) : (((l.map calmO)[n]?).getD default).harm = ((l[n]?).getD default).harm := by
  rw [List.getElem?_map]
  cases l[n]? <;> rfl
theorem calm_sum : ∀ {t : List WishD} {p : List Int} {i : Nat}, sumH (calmFrom i t) p = sumH t p
  | [], p, i => by cases p <;> rfl
  | x :: t, [], i => rfl
  | x :: t, k :: p, i => by simp only [calmFrom, sumH, calmW, calm_harm, calm_sum (t := t) (p := p) (i := i + 1)]
theorem want_choice : ∀ {t : List WishD}, (∀ x ∈ t, 0 < x.opts.length) → choiceB t (wantT t) = true
  | [], _ => rfl
  | x :: t, h => by
    have h1 := (firstTo_spec x.opts x.opts.length (h x List.mem_cons_self)).1
    have ih := want_choice (t := t) fun y hy => h y (List.mem_cons_of_mem _ hy)
    simp only [wantT, List.map_cons, choiceB, Bool.and_eq_true] at ih ⊢
    exact ⟨by simp [idxB, firstW]; omega, ih⟩
/-- no choice has less harm, and of those with as little none comes before -/
theorem want_least : ∀ {t : List WishD} {p : List Int}, choiceB t p = true → sumH t (wantT t) ≤ sumH t p ∧ (sumH t p ≤ sumH t (wantT t) → wantT t = p ∨ LexB (wantT t) p)
  | [], [], _ => ⟨Int.le_refl _, fun _ => Or.inl rfl⟩
  | [], _ :: _, h => by simp [choiceB] at h
  | _ :: _, [], h => by simp [choiceB] at h
  | x :: t, k :: p, h => by
    simp only [choiceB, Bool.and_eq_true] at h
    obtain ⟨n, rfl, hn⟩ := idxB_nat h.1
    obtain ⟨a1, a2, a3⟩ := firstTo_spec x.opts x.opts.length (by omega)
    obtain ⟨b1, b2⟩ := want_least (t := t) h.2
    have c1 := a2 n hn
    have e : wantT (x :: t) = (firstW x : Int) :: wantT t := rfl
    rw [e]
    simp only [sumH, Int.toNat_natCast]
    change (x.opts[firstW x]?.getD default).harm ≤ _ at c1
    refine ⟨by omega, fun hle => ?_⟩
    have d1 : ¬ n < firstW x := fun hlt => by
      have := a3 n hlt
      change (x.opts[firstW x]?.getD default).harm < _ at this
      omega
    by_cases d2 : firstW x = n
    · rcases b2 (by omega) with h1 | h1
      · left; rw [h1, d2]
      · right; exact Or.inr ⟨by rw [d2], h1⟩
    · right; exact Or.inl (by omega)
theorem LexB.asymm : ∀ {a b : List Int}, LexB a b → LexB b a → False
  | [], _, h, _ => by cases h
  | _ :: _, [], h, _ => by cases h
  | a :: ar, b :: br, h, k => by
    rcases h with h | ⟨h, h'⟩ <;> rcases k with k | ⟨k, k'⟩
    · omega
    · omega
    · omega
    · exact LexB.asymm h' k'
theorem calm_free {t : List WishD} {p : List Int} : freeB (calmFrom 0 t) p = true := by
  rw [freeB_iff]
  intro i d hid hd
  unfold clashAt
  rcases optOf_cases (calmFrom 0 t) p i with h1 | ⟨x, o, h1⟩
  · rw [h1]
  · rcases optOf_cases (calmFrom 0 t) p d with h2 | ⟨y, q, h2⟩
    · rw [h1, h2]
    · rw [h1, h2]
      obtain ⟨n, a1, _, a3⟩ := optOf_spec h1
      obtain ⟨m, b1, _, b3⟩ := optOf_spec h2
      dsimp only at a1 a3 b1 b3
      rw [calmFrom_get, Option.map_eq_some_iff] at a1 b1
      obtain ⟨x0, _, rfl⟩ := a1
      obtain ⟨y0, _, rfl⟩ := b1
      simp only [calmW, List.getElem?_map, Option.map_eq_some_iff] at a3
      obtain ⟨o0, _, rfl⟩ := a3
      rw [Nat.zero_add, Nat.zero_add]
      have : shareB (calmW i x0).people (calmW d y0).people = false := by
        simp only [calmW, shareB, List.any_cons, List.any_nil, Bool.or_false]
        simp
        omega
      simp [clashB, this, calmO]
theorem calm_valid {t : List WishD} (hv : validT t = 0) (hl : t.length ≤ 4) : validT (calmFrom 0 t) = 0 := by
  obtain ⟨h1, h2, h3⟩ := validT_parts hv
  rw [tooLarge_iff] at h1
  refine validT_mk ?_ ?_ (by rw [calmFrom_len]; exact h3)
  · rw [tooLarge_iff]
    refine ⟨by rw [calmFrom_len]; exact h1.1, fun y hy => ?_⟩
    obtain ⟨j, x, hx, rfl⟩ := calmFrom_mem hy
    have h4 := h1.2 x (List.mem_of_getElem? hx)
    refine ⟨by simpa [calmW] using h4.1, by simp [calmW], fun o ho => ?_⟩
    simp only [calmW, List.mem_map] at ho
    obtain ⟨o', ho', rfl⟩ := ho
    exact h4.2.2 o' ho'
  · have go : ∀ (l : List WishD) (i : Nat) (p : Option Int), i + l.length ≤ 4 → wishesB p l = true → wishesB p (calmFrom i l) = true := by
      intro l
      induction l with
      | nil => intro i p _ _; rfl
      | cons x l ih =>
        intro i p hi h
        simp only [wishesB, Bool.and_eq_true] at h
        simp only [calmFrom, wishesB, Bool.and_eq_true]
        refine ⟨⟨?_, h.1.2⟩, ih (i + 1) _ (by simp at hi; omega) h.2⟩
        have h5 := h.1.1
        simp only [wishOkB, Bool.and_eq_true, decide_eq_true_eq, List.all_eq_true] at h5 ⊢
        simp only [List.length_cons] at hi
        refine ⟨⟨⟨?_, h5.1.1.2⟩, by simpa [calmW] using h5.1.2⟩, fun o ho => ?_⟩
        · simp [calmW, peopleB]; omega
        · simp only [calmW, List.mem_map] at ho
          obtain ⟨o', ho', rfl⟩ := ho
          have := h5.2 o' ho'
          simp only [optOkB, Bool.and_eq_true, decide_eq_true_eq] at this
          have e : optOkB (calmO o') = (decide (0 ≤ o'.harm) && decide (o'.harm ≤ 1000000) && true && true && normalB o'.spans) := rfl
          rw [e, decide_eq_true this.1.1.1.1, decide_eq_true this.1.1.1.2, this.2]
          rfl
    exact go t 0 none (by omega) h2
theorem calm_best {t : List WishD} (hv : validT t = 0) (hl : t.length ≤ 4) : bestOf (calmFrom 0 t) = some (wantT t, totalT t) := by
  have hv' := calm_valid hv hl
  have ho : ∀ x ∈ t, 0 < x.opts.length := fun x hx => by
    have := (validT_ok hv).2.1 x hx
    simp only [wishOkB, Bool.and_eq_true, decide_eq_true_eq] at this
    exact this.1.2
  have hc := want_choice ho
  have hlaw : lawfulB (calmFrom 0 t) (wantT t) = true := by simp [lawfulB, hv', calm_choice, hc, calm_free]
  obtain ⟨q, h, hb, hle⟩ := bestOf_le hv' hlaw
  obtain ⟨h1, h2, _⟩ := bestOf_spec hv' hb
  rw [calm_sum] at hle h2
  have hcq : choiceB t q = true := by
    simp only [lawfulB, Bool.and_eq_true] at h1
    rw [← calm_choice (i := 0)]; exact h1.1.2
  obtain ⟨h3, h4⟩ := want_least hcq
  have hq : wantT t = q := by
    rcases bestOf_first hv' hb hlaw (by rw [calm_sum]; omega) with h5 | h5
    · exact h5
    · rcases h4 (by omega) with h6 | h6
      · exact h6
      · exact (LexB.asymm h5 h6).elim
  rw [hb, hq, h2]
  subst hq
  rfl
theorem leastN_ge : ∀ (l : List OptD) (n c : Int), (∀ o ∈ l, c ≤ o.harm) → c ≤ n → c ≤ leastN l n
  | [], n, c, _, h => h
  | o :: l, n, c, h1, h => by
    have := leastN_ge l (min n o.harm) c (fun o ho => h1 o (List.mem_cons_of_mem _ ho)) (by have := h1 o List.mem_cons_self; omega)
    simpa [leastN] using this
theorem total_least : ∀ {t : List WishD} {i : Nat}, (∀ x ∈ t, 0 < x.opts.length ∧ ∀ o ∈ x.opts, o.harm ≤ 1000000) → totalT t ≤ leastSum (calmFrom i t)
  | [], i, _ => by simp [totalT, sumH, calmFrom, leastSum]
  | x :: t, i, h => by
    have ih := total_least (t := t) (i := i + 1) fun y hy => h y (List.mem_cons_of_mem _ hy)
    obtain ⟨h1, h2⟩ := h x List.mem_cons_self
    obtain ⟨a1, a2, _⟩ := firstTo_spec x.opts x.opts.length h1
    have hf : (x.opts[firstW x]?.getD default).harm ≤ leastB (calmW i x) := by
      refine leastN_ge _ _ _ (fun o ho => ?_) ?_
      · simp only [calmW, List.mem_map] at ho
        obtain ⟨o', ho', rfl⟩ := ho
        obtain ⟨j, hj, rfl⟩ := List.mem_iff_getElem.1 ho'
        have := a2 j hj
        rw [List.getElem?_eq_getElem hj] at this
        exact this
      · have e : x.opts[firstW x]? = some (x.opts[firstW x]'a1) := List.getElem?_eq_getElem a1
        rw [e]
        exact h2 _ (List.getElem_mem a1)
    have e1 : totalT (x :: t) = (x.opts[firstW x]?.getD default).harm + totalT t := by
      simp [totalT, wantT, sumH]
    have e2 : leastSum (calmFrom i (x :: t)) = leastSum (calmFrom (i + 1) t) + leastB (calmW i x) := rfl
    omega
theorem calm_nodes {t : List WishD} (hv : validT t = 0) : (growL (calmFrom 0 t) (totalT t) (calmFrom 0 t) [] 0 0).nodes.length = 1 := by
  have h0 := (validT_parts hv).2.2
  have ht : totalT t ≤ leastSum (calmFrom 0 t) := total_least fun x hx => by
    have := (validT_ok hv).2.1 x hx
    simp only [wishOkB, Bool.and_eq_true, decide_eq_true_eq, List.all_eq_true] at this
    refine ⟨this.1.2, fun o ho => ?_⟩
    have := this.2 o ho
    simp only [optOkB, Bool.and_eq_true, decide_eq_true_eq] at this
    exact this.1.1.1.2
  cases t with
  | nil => simp at h0
  | cons x r =>
    simp only [calmFrom] at ht ⊢
    have hc : ¬ 0 ≤ lastClash (calmW 0 x :: calmFrom (0 + 1) r) [] := by simp [lastClash]
    unfold growL
    rw [if_neg hc, if_pos (by omega)]
    rfl
end Go.Proofs.Ytonmlmkemliefaa
