/- The plain law of the check: a certificate that is accepted for a bound shows that no lawful choice has less harm. -/
import Derived.Test.YtonmlmkemliefaaPlain
import Derived.Test.YtonmlmkemliefaaCheck
namespace Go.Proofs.Ytonmlmkemliefaa
open Go.RowKit

/-! ### clashes are symmetric -/
theorem shareB_comm (a b : List Int) : shareB a b = shareB b a := by
  have h : ∀ a b : List Int, shareB a b = true → shareB b a = true := by
    intro a b h
    simp only [shareB, List.any_eq_true, List.contains_iff_mem] at h ⊢
    obtain ⟨x, h1, h2⟩ := h
    exact ⟨x, h2, h1⟩
  rw [Bool.eq_iff_iff]
  exact ⟨h a b, h b a⟩
theorem meetB_comm (a b : List (Int × Int)) : meetB a b = meetB b a := by
  have h : ∀ a b : List (Int × Int), meetB a b = true → meetB b a = true := by
    intro a b h
    simp only [meetB, List.any_eq_true, Bool.and_eq_true, decide_eq_true_eq] at h ⊢
    obtain ⟨x, h1, y, h2, h3, h4⟩ := h
    exact ⟨y, h2, x, h1, h4, h3⟩
  rw [Bool.eq_iff_iff]
  exact ⟨h a b, h b a⟩
theorem clashB_comm (a b : WishD) (x y : OptD) : clashB a b x y = clashB b a y x := by
  unfold clashB
  rw [shareB_comm, meetB_comm]
  congr 2
  rw [Bool.eq_iff_iff]
  simp only [Bool.and_eq_true, decide_eq_true_eq]
  omega
theorem clashAt_comm (t : List WishD) (p : List Int) (i d : Nat) : clashAt t p i d = clashAt t p d i := by
  unfold clashAt
  cases optOf t p i <;> cases optOf t p d <;> simp
  rename_i a b
  exact clashB_comm _ _ _ _
theorem freeB_no {t : List WishD} {p : List Int} (h : freeB t p = true) {i d : Nat} (hi : i < p.length) (hd : d < p.length) (hne : i ≠ d) : clashAt t p i d = false := by
  have main : ∀ i d, i < d → d < p.length → clashAt t p i d = false := by
    intro i d hid hd
    cases hc : clashAt t p i d with
    | false => rfl
    | true =>
      have h1 : decide (0 ≤ earlierI t p d) = true := by
        unfold earlierI
        rw [findI_ge, List.any_eq_true]
        exact ⟨i, by simpa using hid, hc⟩
      rw [decide_eq_true_eq] at h1
      rw [freeB_hit hd h1] at h
      cases h
  rcases Nat.lt_or_gt_of_ne hne with h1 | h1
  · exact main i d h1 hd
  · rw [clashAt_comm]; exact main d i h1 hi

/-! ### the harm that is not yet decided -/
def harmK (x : WishD) (k : Int) : Int := ((x.opts[k.toNat]?).getD default).harm
def slack : List WishD → List Int → List Int → Int
  | x :: t, d :: dec, k :: p => (if d < 0 then harmK x k - leastB x else 0) + slack t dec p
  | _, _, _ => 0
theorem harmK_ge {x : WishD} {k : Int} (h : idxB k x.opts.length = true) : leastB x ≤ harmK x k := by
  obtain ⟨j, rfl, hj⟩ := idxB_nat h
  have := (leastN_le x.opts 1000000).2 x.opts[j] (List.getElem_mem hj)
  simp only [harmK, Int.toNat_natCast, List.getElem?_eq_getElem hj, Option.getD_some]
  exact this
theorem slack_ge : ∀ {t : List WishD} {dec p : List Int}, choiceB t p = true → 0 ≤ slack t dec p
  | [], _, _, _ => by simp [slack]
  | _ :: _, [], _, _ => by simp [slack]
  | _ :: _, _ :: _, [], _ => by simp [slack]
  | x :: t, d :: dec, k :: p, h => by
    simp only [choiceB, Bool.and_eq_true] at h
    have h1 := slack_ge (dec := dec) h.2
    have h2 := harmK_ge h.1
    simp only [slack]
    split <;> omega
theorem slack_start : ∀ (t : List WishD) (p : List Int), choiceB t p = true → leastSum t + slack t (List.replicate t.length (-1)) p = sumH t p
  | [], [], _ => rfl
  | [], _ :: _, h => by simp [choiceB] at h
  | _ :: _, [], h => by simp [choiceB] at h
  | x :: t, k :: p, h => by
    simp only [choiceB, Bool.and_eq_true] at h
    have := slack_start t p h.2
    simp only [List.length_cons, List.replicate_succ, slack, leastSum, sumH]
    rw [if_pos (by omega)]
    simp only [harmK]
    omega
theorem slack_set : ∀ {t : List WishD} {dec p : List Int} {m : Nat} {x : WishD} {d k i : Int}, t[m]? = some x → dec[m]? = some d → p[m]? = some k → d < 0 → 0 ≤ i →
    slack t (dec.set m i) p = slack t dec p - (harmK x k - leastB x)
  | [], _, _, m, x, d, k, i, h, _, _, _, _ => by simp at h
  | _ :: _, [], _, m, x, d, k, i, _, h, _, _, _ => by simp at h
  | _ :: _, _ :: _, [], m, x, d, k, i, _, _, h, _, _ => by simp at h
  | y :: t, e :: dec, q :: p, 0, x, d, k, i, h1, h2, h3, h4, h5 => by
    simp at h1 h2 h3
    subst h1 h2 h3
    simp only [List.set_cons_zero, slack]
    rw [if_neg (by omega), if_pos h4]
    omega
  | y :: t, e :: dec, q :: p, m + 1, x, d, k, i, h1, h2, h3, h4, h5 => by
    have := slack_set (t := t) (dec := dec) (p := p) (m := m) (by simpa using h1) (by simpa using h2) (by simpa using h3) h4 h5
    simp only [List.set_cons_succ, slack, this]
    omega

/-- p goes on from what is decided -/
def Goes (dec p : List Int) : Prop := ∀ (j : Nat) (d : Int), dec[j]? = some d → 0 ≤ d → p[j]? = some d
theorem Goes.set_ {dec p : List Int} (h : Goes dec p) {m : Nat} {k : Int} (hk : p[m]? = some k) : Goes (dec.set m k) p := by
  intro j d hd h0
  rw [List.getElem?_set] at hd
  split at hd
  · rename_i e
    subst e
    split at hd
    · cases hd; exact hk
    · cases hd
  · exact h j d hd h0
theorem Goes.opt {t : List WishD} {dec p : List Int} (h : Goes dec p) {j : Nat} {r : WishD × OptD} (hr : optOf t dec j = some r) : optOf t p j = some r := by
  obtain ⟨n, h1, h2, h3⟩ := optOf_spec hr
  have := h j n h2 (by omega)
  simp only [optOf, h1, this, Option.bind_some]
  rw [if_pos (by omega)]
  simp [h3]
theorem kidsR_at {g : Int → Int → OptD → Bool} : ∀ {i : Int} {ks : List Int} {os : List OptD}, kidsR g i ks os = true → ∀ (j : Nat) (k : Int) (o : OptD), ks[j]? = some k → os[j]? = some o → g (i + j) k o = true
  | i, [], os, _, j, k, o, h, _ => by simp at h
  | i, _ :: _, [], _, j, k, o, _, h => by simp at h
  | i, a :: ks, b :: os, h, 0, k, o, h1, h2 => by
    simp only [kidsR, Bool.and_eq_true] at h
    simp at h1 h2
    subst h1 h2
    simpa using h.1
  | i, a :: ks, b :: os, h, j + 1, k, o, h1, h2 => by
    simp only [kidsR, Bool.and_eq_true] at h
    have := kidsR_at h.2 j k o (by simpa using h1) (by simpa using h2)
    rw [show i + ((j + 1 : Nat) : Int) = i + 1 + j by omega]
    exact this
theorem idx_getElem {t : List WishD} {p : List Int} (h : choiceB t p = true) {m : Nat} {x : WishD} (hx : t[m]? = some x) : ∃ k : Nat, p[m]? = some (k : Int) ∧ ∃ o, x.opts[k]? = some o := by
  have hm := (List.getElem?_eq_some_iff.1 hx).1
  obtain ⟨r, hr⟩ := Option.isSome_iff_exists.1 (optOf_of_choice h m hm)
  obtain ⟨n, h1, h2, h3⟩ := optOf_spec hr
  rw [hx] at h1
  cases h1
  exact ⟨n, h2, r.2, h3⟩

theorem right_sound (t : List WishD) (bound : Int) (c : List NodeD) (p : List Int) (hc : choiceB t p = true) (hf : freeB t p = true) :
    ∀ (f : Nat) (dec : List Int) (lst : Int) (at_ : Nat) (harm : Int), rightP t bound c f dec lst at_ harm = true → dec.length = t.length → Goes dec p → harm + lst + slack t dec p = sumH t p → bound ≤ sumH t p
  | 0, _, _, _, _, h, _, _, _ => by simp [rightP] at h
  | f + 1, dec, lst, at_, harm, h, hl, hg, hs => by
    have hpl := choiceB_len hc
    have hsl := slack_ge (dec := dec) hc
    simp only [rightP] at h
    split at h
    · cases h
    · rename_i n hn
      split at h
      · simp only [Bool.and_eq_true, closedB] at h
        obtain ⟨_, h⟩ := h
        split at h
        · simp only [Bool.and_eq_true, decide_eq_true_eq] at h
          omega
        · split at h
          · cases h
          · rename_i hno
            simp only [Bool.and_eq_true, decide_eq_true_eq] at h
            obtain ⟨_, h3⟩ := h
            have hA : idxB n.clA t.length = true := by cases hh : idxB n.clA t.length <;> simp_all
            have hB : idxB n.clB t.length = true := by cases hh : idxB n.clB t.length <;> simp_all
            have hne : n.clA ≠ n.clB := fun e => hno (Or.inr (Or.inr e))
            obtain ⟨a, ea, ha⟩ := idxB_nat hA
            obtain ⟨b, eb, hb⟩ := idxB_nat hB
            rw [ea, eb] at h3 hne
            simp only [Int.toNat_natCast] at h3
            have h4 : clashAt t p a b = true := by
              unfold clashAt at h3
              cases h5 : optOf t dec a with
              | none => simp [h5] at h3
              | some r =>
                cases h6 : optOf t dec b with
                | none => simp [h5, h6] at h3
                | some r' =>
                  simp only [h5, h6] at h3
                  unfold clashAt
                  rw [hg.opt h5, hg.opt h6]
                  exact h3
            rw [freeB_no hf (by omega) (by omega) (by omega)] at h4
            cases h4
      · split at h
        · cases h
        · rename_i hi
          have hA : idxB n.wish t.length = true := by simpa using hi
          obtain ⟨m, em, hm⟩ := idxB_nat hA
          rw [em] at h
          simp only [Int.toNat_natCast] at h
          split at h
          · cases h
          · rename_i x hx
            split at h
            · cases h
            · rename_i hno
              obtain ⟨k, hk, o, ho⟩ := idx_getElem hc hx
              have hkl : k < n.kids.length := by
                have := (List.getElem?_eq_some_iff.1 ho).1
                omega
              have hr := kidsR_at h k n.kids[k] o (List.getElem?_eq_getElem hkl) ho
              simp only [Int.zero_add] at hr
              have hdl : m < dec.length := by omega
              have hd : dec[m]? = some dec[m] := List.getElem?_eq_getElem hdl
              have hd0 : dec[m] < 0 := by
                have : ¬ 0 ≤ decAt dec (m : Int) := fun h => hno (Or.inl h)
                simp only [decAt, Int.toNat_natCast, hd, Option.getD_some] at this
                omega
              refine right_sound t bound c p hc hf f (dec.set m k) _ _ _ hr (by rw [List.length_set]; exact hl) (hg.set_ hk) ?_
              rw [slack_set hx hd hk hd0 (by omega)]
              have e : harmK x k = o.harm := by simp [harmK, ho]
              omega
theorem check_sound {t : List WishD} {bound : Int} {c : List NodeD} (h : checkT t bound c = 0) {p : List Int} (hp : lawfulB t p = true) : bound ≤ sumH t p := by
  simp only [lawfulB, Bool.and_eq_true, decide_eq_true_eq] at hp
  unfold checkT at h
  rw [if_neg (by simp [hp.1.1])] at h
  split at h
  · cases h
  · split at h
    · rename_i hr
      refine right_sound t bound c p hp.1.2 hp.2 _ _ _ _ _ hr (by simp) ?_ ?_
      · intro j d hd h0
        rw [List.getElem?_replicate] at hd
        split at hd
        · cases hd; omega
        · cases hd
      · have := slack_start t p hp.1.2
        omega
    · cases h

/-! ### the lawful choices -/
theorem mem_choicesL : ∀ {l : List WishD} {pre : List Int} {harm : Int} {c : List Int × Int}, c ∈ choicesL l pre harm ↔ ∃ s, c.1 = pre ++ s ∧ choiceB l s = true ∧ c.2 = harm + sumH l s
  | [], pre, harm, c => by
    simp only [choicesL, List.mem_singleton]
    refine ⟨fun h => ⟨[], by simp [h], rfl, by simp [h, sumH]⟩, ?_⟩
    rintro ⟨s, h1, h2, h3⟩
    cases s with
    | nil => obtain ⟨a, b⟩ := c; simp [sumH] at h1 h3; rw [h1, h3]
    | cons k s => simp [choiceB] at h2
  | x :: r, pre, harm, c => by
    have key : ∀ (l : List OptD) (i : Int), c ∈ kidsC (fun i o => choicesL r (pre ++ [i]) (harm + o.harm)) l i ↔ ∃ (j : Nat) (o : OptD), l[j]? = some o ∧ c ∈ choicesL r (pre ++ [i + j]) (harm + o.harm) := by
      intro l
      induction l with
      | nil => intro i; simp [kidsC]
      | cons o l ih =>
        intro i
        simp only [kidsC, List.mem_append, ih]
        constructor
        · rintro (h | ⟨j, o', h1, h2⟩)
          · exact ⟨0, o, rfl, by simpa using h⟩
          · refine ⟨j + 1, o', by simpa using h1, ?_⟩
            rw [show i + ((j + 1 : Nat) : Int) = i + 1 + j by omega]
            exact h2
        · rintro ⟨j, o', h1, h2⟩
          cases j with
          | zero => simp at h1; subst h1; left; simpa using h2
          | succ j =>
            right
            refine ⟨j, o', by simpa using h1, ?_⟩
            rw [show i + 1 + (j : Int) = i + ((j + 1 : Nat) : Int) by omega]
            exact h2
    simp only [choicesL, key, Int.zero_add]
    constructor
    · rintro ⟨j, o, h1, h2⟩
      obtain ⟨s, e, hs, hh⟩ := mem_choicesL.1 h2
      have hj := (List.getElem?_eq_some_iff.1 h1).1
      refine ⟨(j : Int) :: s, by rw [e]; simp, ?_, ?_⟩
      · simp only [choiceB, Bool.and_eq_true]
        exact ⟨idxB_of_lt hj, hs⟩
      · simp only [sumH, Int.toNat_natCast, h1, Option.getD_some]
        omega
    · rintro ⟨s, e, hs, hh⟩
      cases s with
      | nil => simp [choiceB] at hs
      | cons k s =>
        simp only [choiceB, Bool.and_eq_true] at hs
        obtain ⟨j, rfl, hj⟩ := idxB_nat hs.1
        refine ⟨j, x.opts[j], List.getElem?_eq_getElem hj, mem_choicesL.2 ⟨s, by rw [e]; simp, hs.2, ?_⟩⟩
        simp only [sumH, Int.toNat_natCast, List.getElem?_eq_getElem hj, Option.getD_some] at hh
        omega
theorem okFrom_free (t : List WishD) (p : List Int) : okFrom t 0 p = freeB t p := by
  unfold okFrom freeB
  rw [Bool.eq_iff_iff, List.all_eq_true, List.all_eq_true]
  refine ⟨fun h d hd => ?_, fun h d hd => ?_⟩ <;>
  · have := h d hd
    simp at this ⊢
    omega
theorem mem_lawfulL {t : List WishD} (hv : validT t = 0) {c : List Int × Int} : c ∈ lawfulL t ↔ lawfulB t c.1 = true ∧ c.2 = sumH t c.1 := by
  unfold lawfulL
  rw [List.mem_filter, mem_choicesL, okFrom_free]
  simp only [lawfulB, hv, decide_true, Bool.true_and, Bool.and_eq_true]
  constructor
  · rintro ⟨⟨s, h1, h2, h3⟩, h4⟩
    simp at h1
    subst h1
    exact ⟨⟨h2, h4⟩, by omega⟩
  · rintro ⟨⟨h1, h2⟩, h3⟩
    exact ⟨⟨c.1, by simp, h1, by omega⟩, h2⟩
theorem bestOf_spec {t : List WishD} (hv : validT t = 0) {p : List Int} {h : Int} (hb : bestOf t = some (p, h)) :
    lawfulB t p = true ∧ h = sumH t p ∧ ∀ q, lawfulB t q = true → h ≤ sumH t q := by
  obtain ⟨h1, h2, _⟩ := foldFound_spec _ _ _ hb
  rcases h1 with h1 | h1
  · have := (mem_lawfulL hv).1 h1
    exact ⟨this.1, this.2, fun q hq => h2 (q, sumH t q) ((mem_lawfulL hv).2 ⟨hq, rfl⟩)⟩
  · cases h1
theorem bestOf_none {t : List WishD} (hv : validT t = 0) (hb : lawfulL t = []) (q : List Int) : lawfulB t q = false := by
  cases h : lawfulB t q with
  | false => rfl
  | true =>
    have := (mem_lawfulL hv (c := (q, sumH t q))).2 ⟨h, rfl⟩
    rw [hb] at this
    cases this
end Go.Proofs.Ytonmlmkemliefaa
