/- The plain law of further options and of fewer wishes: the least harm does not rise. -/
import Derived.Test.YtjglidlmpjmjeaaGreatDoorPM
namespace Go.Proofs.YtjglidlmpjmjeaaGreatDoor
open Go.RowKit

theorem freeB_iff {t : List WishD} {p : List Int} : freeB t p = true ↔ ∀ i d, i < d → d < p.length → clashAt t p i d = false := by
 refine ⟨fun h i d h1 h2 => freeB_no h (by omega) h2 (by omega), fun h => freeB_all fun d hd he => ?_⟩
 unfold earlierI at he
 have := findI_ge (fun i => clashAt t p i d) (List.range d)
 rw [decide_eq_true he] at this
 have h2 := List.any_eq_true.1 this.symm
 obtain ⟨i, hi, hc⟩ := h2
 rw [h i d (by simpa using hi) hd] at hc
 cases hc
theorem optOf_cases (t : List WishD) (p : List Int) (j : Nat) : optOf t p j = none ∨ ∃ x o, optOf t p j = some (x, o) := by
 cases h : optOf t p j with
 | none => exact Or.inl rfl
 | some r => exact Or.inr ⟨r.1, r.2, rfl⟩

/-! ### a further option -/
def moreOpt (t : List WishD) (m : Nat) (o : OptD) : List WishD := t.set m { (t[m]?.getD default) with opts := (t[m]?.getD default).opts ++ [o] }
theorem moreOpt_at {t : List WishD} {m : Nat} {o : OptD} (hm : m < t.length) (j : Nat) (x : WishD) (hx : t[j]? = some x) : ∃ y, (moreOpt t m o)[j]? = some y ∧ y.people = x.people ∧ y.meeting = x.meeting ∧ (y.opts = x.opts ∨ y.opts = x.opts ++ [o]) := by
 unfold moreOpt
 rw [List.getElem?_set]
 by_cases e : m = j
 ·subst e
  rw [if_pos rfl, if_pos hm, hx]
  exact ⟨_, rfl, rfl, rfl, Or.inr rfl⟩
 ·rw [if_neg e]
  exact ⟨x, hx, rfl, rfl, Or.inl rfl⟩
theorem moreOpt_opt {t : List WishD} {m : Nat} {o : OptD} (hm : m < t.length) {p : List Int} {j : Nat} {x : WishD} {q : OptD} (h : optOf t p j = some (x, q)) : ∃ y, optOf (moreOpt t m o) p j = some (y, q) ∧ y.people = x.people := by
 obtain ⟨n, h1, h2, h3⟩ := optOf_spec h
 dsimp only at h1 h3
 obtain ⟨y, hy, hp, _, ho⟩ := moreOpt_at (o := o) hm j x h1
 refine ⟨y, ?_, hp⟩
 have hq : y.opts[n]? = some q := by
  rcases ho with e | e
  ·rw [e]; exact h3
  ·rw [e, List.getElem?_append_left (List.getElem?_eq_some_iff.1 h3).1]; exact h3
 simp only [optOf, hy, h2, Option.bind_some]
 rw [if_pos (by omega)]
 simp [hq]
theorem moreOpt_choice : ∀ {t : List WishD} {m : Nat} {o : OptD} {p : List Int}, choiceB t p = true → m < t.length → choiceB (moreOpt t m o) p = true ∧ sumH (moreOpt t m o) p = sumH t p
 | [], m, o, p, _, hm => by simp at hm
 | x :: t, m, o, [], h, _ => by simp [choiceB] at h
 | x :: t, 0, o, k :: p, h, _ => by
  simp only [choiceB, Bool.and_eq_true] at h
  obtain ⟨j, rfl, hj⟩ := idxB_nat h.1
  simp only [moreOpt, List.getElem?_cons_zero, Option.getD_some, List.set_cons_zero, choiceB, sumH, Bool.and_eq_true, Int.toNat_natCast]
  refine ⟨⟨idxB_of_lt (by simp; omega), h.2⟩, ?_⟩
  rw [List.getElem?_append_left hj]
 | x :: t, m + 1, o, k :: p, h, hm => by
  simp only [choiceB, Bool.and_eq_true] at h
  obtain ⟨h1, h2⟩ := moreOpt_choice (t := t) (m := m) (o := o) h.2 (by simpa using hm)
  have e : moreOpt (x :: t) (m + 1) o = x :: moreOpt t m o := by simp [moreOpt]
  rw [e]
  simp only [choiceB, sumH, Bool.and_eq_true, h2]
  exact ⟨⟨h.1, h1⟩, trivial⟩
theorem moreOpt_free {t : List WishD} {m : Nat} {o : OptD} {p : List Int} (hc : choiceB t p = true) (hm : m < t.length) (hf : freeB t p = true) : freeB (moreOpt t m o) p = true := by
 rw [freeB_iff] at hf ⊢
 intro i d h1 h2
 have hl := choiceB_len hc
 obtain ⟨⟨x, q⟩, e1⟩ := Option.isSome_iff_exists.1 (optOf_of_choice hc i (by omega))
 obtain ⟨⟨x', q'⟩, e2⟩ := Option.isSome_iff_exists.1 (optOf_of_choice hc d (by omega))
 obtain ⟨y, e3, e4⟩ := moreOpt_opt (o := o) hm e1
 obtain ⟨y', e5, e6⟩ := moreOpt_opt (o := o) hm e2
 have := hf i d h1 h2
 simp only [clashAt, e1, e2] at this
 simp only [clashAt, e3, e5]
 unfold clashB at this ⊢
 rw [e4, e6]
 exact this
theorem wishesB_set : ∀ {t : List WishD} {p : Option Int} {m : Nat} {y : WishD}, wishesB p t = true → (∀ x, t[m]? = some x → y.meeting = x.meeting) → wishOkB y = true → wishesB p (t.set m y) = true
 | [], _, _, _, _, _, _ => rfl
 | x :: t, p, 0, y, h, hy, hk => by
  simp only [wishesB, Bool.and_eq_true] at h
  simp only [List.set_cons_zero, wishesB, Bool.and_eq_true]
  have e := hy x rfl
  rw [e]
  exact ⟨⟨hk, h.1.2⟩, h.2⟩
 | x :: t, p, m + 1, y, h, hy, hk => by
  simp only [wishesB, Bool.and_eq_true] at h
  simp only [List.set_cons_succ, wishesB, Bool.and_eq_true]
  exact ⟨h.1, wishesB_set h.2 (fun x hx => hy x (by simpa using hx)) hk⟩
theorem validT_mk {t : List WishD} (h1 : tooLargeB t = false) (h2 : wishesB none t = true) (h3 : 0 < t.length) : validT t = 0 := by
 unfold validT
 rw [h1, h2]
 simp [h3]
theorem validT_parts {t : List WishD} (h : validT t = 0) : tooLargeB t = false ∧ wishesB none t = true ∧ 0 < t.length := by
 unfold validT at h
 split at h
 ·omega
 ·split at h
  ·rename_i h1 h2
   simp only [Bool.and_eq_true, decide_eq_true_eq] at h2
   exact ⟨by simpa using h1, h2.1, h2.2⟩
  ·omega
theorem tooLarge_iff {t : List WishD} : tooLargeB t = false ↔ t.length ≤ 512 ∧ ∀ x ∈ t, x.opts.length ≤ 16 ∧ x.people.length ≤ 64 ∧ ∀ o ∈ x.opts, o.spans.length ≤ 64 := by
 simp only [tooLargeB, Bool.or_eq_false_iff, decide_eq_false_iff_not, List.any_eq_false, Bool.or_eq_true, decide_eq_true_eq, List.any_eq_true, not_or, not_exists, not_and]
 constructor
 ·rintro ⟨h1, h2⟩
  refine ⟨by omega, fun x hx => ?_⟩
  obtain ⟨⟨h3, h4⟩, h5⟩ := h2 x hx
  exact ⟨by omega, by omega, fun o ho => by have := h5 o ho; omega⟩
 ·rintro ⟨h1, h2⟩
  refine ⟨by omega, fun x hx => ?_⟩
  obtain ⟨h3, h4, h5⟩ := h2 x hx
  exact ⟨⟨by omega, by omega⟩, fun o ho => by have := h5 o ho; omega⟩
theorem moreOpt_valid {t : List WishD} {m : Nat} {o : OptD} (hv : validT t = 0) (hm : m < t.length) (ho : optOkB o = true) (hs : o.spans.length ≤ 64) (h16 : ∀ x ∈ t, x.opts.length ≤ 15) : validT (moreOpt t m o) = 0 := by
 obtain ⟨h1, h2, h3⟩ := validT_parts hv
 have hx : t[m]? = some t[m] := List.getElem?_eq_getElem hm
 have hmem := List.getElem_mem hm
 rw [tooLarge_iff] at h1
 have hok := (validT_ok hv).2.1 t[m] hmem
 refine validT_mk ?_ ?_ (by unfold moreOpt; rw [List.length_set]; exact h3)
 ·rw [tooLarge_iff]
  refine ⟨by unfold moreOpt; rw [List.length_set]; exact h1.1, fun x hx' => ?_⟩
  rcases List.mem_or_eq_of_mem_set hx' with h4 | h4
  ·exact h1.2 x h4
  ·subst h4
   simp only [hx, Option.getD_some, List.length_append, List.length_cons, List.length_nil]
   have := h1.2 _ hmem
   have h15 := h16 _ hmem
   refine ⟨by omega, this.2.1, fun q hq => ?_⟩
   rcases List.mem_append.1 hq with h5 | h5
   ·exact this.2.2 q h5
   ·simp at h5; subst h5; exact hs
 ·refine wishesB_set h2 (fun x hx' => by rw [hx']; rfl) ?_
  simp only [hx, Option.getD_some]
  simp only [wishOkB, Bool.and_eq_true, decide_eq_true_eq, List.all_eq_true] at hok ⊢
  refine ⟨⟨hok.1.1, by simp⟩, fun q hq => ?_⟩
  rcases List.mem_append.1 hq with h5 | h5
  ·exact hok.2 q h5
  ·simp at h5; subst h5; exact ho
theorem bestOf_le {t : List WishD} (hv : validT t = 0) {p : List Int} (hp : lawfulB t p = true) : ∃ q h, bestOf t = some (q, h) ∧ h ≤ sumH t p := by
 cases hb : bestOf t with
 | none =>
  have hm := (mem_lawfulL hv (c := (p, sumH t p))).2 ⟨hp, rfl⟩
  have hn : ∀ (l : List (List Int × Int)) (f : Option (List Int × Int)), foldFound f l = none → l = [] := by
   intro l
   induction l with
   | nil => intro _ _; rfl
   | cons x l ih =>
    intro f h
    have h' : foldFound (stepFound f x) l = none := h
    have := ih _ h'
    subst this
    have h2 : stepFound f x = none := h'
    cases f <;> simp [stepFound] at h2
    split at h2 <;> cases h2
  rw [hn _ _ hb] at hm
  cases hm
 | some r => exact ⟨r.1, r.2, rfl, (bestOf_spec hv hb).2.2 p hp⟩
theorem moreOpt_best {t : List WishD} {m : Nat} {o : OptD} (hv : validT t = 0) (hm : m < t.length) (ho : optOkB o = true) (hs : o.spans.length ≤ 64) (h16 : ∀ x ∈ t, x.opts.length ≤ 15) {p : List Int} {h : Int} (hb : bestOf t = some (p, h)) :
  ∃ q h', bestOf (moreOpt t m o) = some (q, h') ∧ h' ≤ h := by
 obtain ⟨h1, h2, _⟩ := bestOf_spec hv hb
 simp only [lawfulB, Bool.and_eq_true] at h1
 have hv' := moreOpt_valid hv hm ho hs h16
 obtain ⟨h3, h4⟩ := moreOpt_choice (o := o) h1.1.2 hm
 have h5 := moreOpt_free (o := o) h1.1.2 hm h1.2
 obtain ⟨q, h', e, hle⟩ := bestOf_le hv' (p := p) (by simp [lawfulB, hv', h3, h5])
 exact ⟨q, h', e, by omega⟩

/-! ### without the last wish -/
theorem choiceB_take : ∀ {t : List WishD} {p : List Int} (n : Nat), choiceB t p = true → choiceB (t.take n) (p.take n) = true
 | [], [], n, _ => by simp [choiceB]
 | [], _ :: _, n, h => by simp [choiceB] at h
 | _ :: _, [], n, h => by simp [choiceB] at h
 | x :: t, k :: p, 0, h => rfl
 | x :: t, k :: p, n + 1, h => by
  simp only [choiceB, Bool.and_eq_true] at h
  simp only [List.take_succ_cons, choiceB, Bool.and_eq_true]
  exact ⟨h.1, choiceB_take n h.2⟩
theorem sumH_take : ∀ {t : List WishD} {p : List Int} (n : Nat), (∀ x ∈ t, ∀ o ∈ x.opts, 0 ≤ o.harm ∧ o.harm ≤ 1000000) → choiceB t p = true → sumH (t.take n) (p.take n) ≤ sumH t p
 | [], [], n, _, _ => by simp [sumH]
 | [], _ :: _, n, _, h => by simp [choiceB] at h
 | _ :: _, [], n, _, h => by simp [choiceB] at h
 | x :: t, k :: p, 0, hh, h => by
  have := (sumH_bd hh h).1
  simpa [sumH] using this
 | x :: t, k :: p, n + 1, hh, h => by
  simp only [choiceB, Bool.and_eq_true] at h
  have := sumH_take (t := t) (p := p) n (fun y hy => hh y (List.mem_cons_of_mem _ hy)) h.2
  simp only [List.take_succ_cons, sumH]
  omega
theorem optOf_takes {t : List WishD} {p : List Int} {n j : Nat} (h : j < n) : optOf (t.take n) (p.take n) j = optOf t p j := by
 simp [optOf, h]
theorem wishesB_take : ∀ {t : List WishD} {p : Option Int} (n : Nat), wishesB p t = true → wishesB p (t.take n) = true
 | [], _, n, _ => by simp [wishesB]
 | _ :: _, _, 0, _ => rfl
 | x :: t, p, n + 1, h => by
  simp only [wishesB, Bool.and_eq_true] at h
  simp only [List.take_succ_cons, wishesB, Bool.and_eq_true]
  exact ⟨h.1, wishesB_take n h.2⟩
theorem take_valid {t : List WishD} {n : Nat} (hv : validT t = 0) (hn : 0 < n) : validT (t.take n) = 0 := by
 obtain ⟨h1, h2, h3⟩ := validT_parts hv
 rw [tooLarge_iff] at h1
 refine validT_mk ?_ (wishesB_take n h2) (by simp; omega)
 rw [tooLarge_iff]
 refine ⟨by simp; omega, fun x hx => h1.2 x (List.mem_of_mem_take hx)⟩
theorem take_best {t : List WishD} {n : Nat} (hv : validT t = 0) (hn : 0 < n) {p : List Int} {h : Int} (hb : bestOf t = some (p, h)) : ∃ q h', bestOf (t.take n) = some (q, h') ∧ h' ≤ h := by
 obtain ⟨h1, h2, _⟩ := bestOf_spec hv hb
 simp only [lawfulB, Bool.and_eq_true] at h1
 have hv' := take_valid (n := n) hv hn
 have h3 := choiceB_take n h1.1.2
 have h5 : freeB (t.take n) (p.take n) = true := by
  have hf := freeB_iff.1 h1.2
  rw [freeB_iff]
  intro i d hid hd
  simp only [List.length_take] at hd
  have := hf i d hid (by omega)
  simp only [clashAt, optOf_takes (t := t) (p := p) (n := n) (j := i) (by omega), optOf_takes (t := t) (p := p) (n := n) (j := d) (by omega)]
  simpa [clashAt] using this
 obtain ⟨q, h', e, hle⟩ := bestOf_le hv' (p := p.take n) (by simp [lawfulB, hv', h3, h5])
 have := sumH_take n (harms_of hv) h1.1.2
 exact ⟨q, h', e, by omega⟩
end Go.Proofs.YtjglidlmpjmjeaaGreatDoor
