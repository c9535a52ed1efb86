import Derived.Test.YtgolicoalldidaaGreatZ10
set_option maxHeartbeats 12800000
namespace Go.Proofs.YtgolicoalldidaaGreat
open Go.RowKit
theorem chainB_cons {p : Option Int} {s : Int × Int} {r : List (Int × Int)} : chainB p (s :: r) = true ↔ s.1 < s.2 ∧ (∀ e, p = some e → e < s.1) ∧ chainB (some s.2) r = true := by
 simp only [chainB, Bool.and_eq_true, decide_eq_true_eq]
 cases p with
 | none => simp
 | some e => simp [and_assoc]
theorem chainB_mem : ∀ {l : List (Int × Int)} {p : Option Int}, chainB p l = true → ∀ s ∈ l, s.1 < s.2 ∧ ∀ e, p = some e → e < s.1
 | [], _, _, s, hs => by cases hs
 | x :: r, p, h, s, hs => by
  obtain ⟨h1, h2, h3⟩ := chainB_cons.1 h
  rcases List.mem_cons.1 hs with rfl | hs
  ·exact ⟨h1, h2⟩
  ·have := chainB_mem h3 s hs
   exact ⟨this.1, fun e he => by have a := h2 e he; have b := this.2 _ rfl; omega⟩
theorem chainB_weak {l : List (Int × Int)} {p : Option Int} (h : chainB p l = true) : chainB none l = true := by
 cases l with
 | nil => rfl
 | cons s r => obtain ⟨a, _, c⟩ := chainB_cons.1 h; exact chainB_cons.2 ⟨a, by simp, c⟩
theorem hasB_cons (s : Int × Int) (r : List (Int × Int)) (t : Int) : hasB (s :: r) t = (decide (s.1 ≤ t) && decide (t < s.2) || hasB r t) := by simp [hasB]
theorem hasB_nil (t : Int) : hasB [] t = false := rfl
theorem hasB_app (a b : List (Int × Int)) (t : Int) : hasB (a ++ b) t = (hasB a t || hasB b t) := by simp [hasB]
theorem has_behind {l : List (Int × Int)} {e t : Int} (h : chainB (some e) l = true) (ht : t ≤ e) : hasB l t = false := by
 rw [← Bool.not_eq_true, hasB_iff]
 rintro ⟨s, hs, h1, h2⟩
 have := (chainB_mem h s hs).2 e rfl
 omega
theorem chain_unique : ∀ {l m : List (Int × Int)}, chainB none l = true → chainB none m = true → (∀ t, hasB l t = hasB m t) → l = m
 | [], [], _, _, _ => rfl
 | [], s :: r, _, hm, h => by
  obtain ⟨a, _, _⟩ := chainB_cons.1 hm
  have := h s.1
  rw [hasB_cons] at this
  simp [hasB_nil, a] at this
 | s :: r, [], hl, _, h => by
  obtain ⟨a, _, _⟩ := chainB_cons.1 hl
  have := h s.1
  rw [hasB_cons] at this
  simp [hasB_nil, a] at this
 | s :: r, s' :: r', hl, hm, h => by
  obtain ⟨a, _, c⟩ := chainB_cons.1 hl
  obtain ⟨a', _, c'⟩ := chainB_cons.1 hm
  obtain ⟨x, y⟩ := s
  obtain ⟨x', y'⟩ := s'
  dsimp only at *
  have low : ∀ {x y : Int} {r : List (Int × Int)}, x < y → chainB (some y) r = true → ∀ t, t ≤ y → hasB ((x, y) :: r) t = (decide (x ≤ t) && decide (t < y)) := fun {x y r} _ hc t ht => by
   rw [hasB_cons, has_behind hc ht, Bool.or_false]
  have e1 : x = x' := by
   rcases Int.lt_trichotomy x x' with hlt | he | hgt
   ·have h1 := h x
    rw [low a c x (by omega), low a' c' x (by omega)] at h1
    have h2 := congrArg (· = true) h1
    simp only [Bool.and_eq_true, decide_eq_true_eq, eq_iff_iff] at h2
    omega
   ·exact he
   ·have h1 := h x'
    rw [low a c x' (by omega), low a' c' x' (by omega)] at h1
    have h2 := congrArg (· = true) h1
    simp only [Bool.and_eq_true, decide_eq_true_eq, eq_iff_iff] at h2
    omega
  subst e1
  have e2 : y = y' := by
   rcases Int.lt_trichotomy y y' with hlt | he | hgt
   ·have h1 := h y
    rw [low a c y (by omega), low a' c' y (by omega)] at h1
    have h2 := congrArg (· = true) h1
    simp only [Bool.and_eq_true, decide_eq_true_eq, eq_iff_iff] at h2
    omega
   ·exact he
   ·have h1 := h y'
    rw [low a c y' (by omega), low a' c' y' (by omega)] at h1
    have h2 := congrArg (· = true) h1
    simp only [Bool.and_eq_true, decide_eq_true_eq, eq_iff_iff] at h2
    omega
  subst e2
  have hr : ∀ t, hasB r t = hasB r' t := fun t => by
   rcases Int.lt_or_le y t with hlt | hle
   ·have h1 := h t
    rw [hasB_cons, hasB_cons] at h1
    have e : decide (t < y) = false := by simpa using Int.le_of_lt hlt
    simpa [e] using h1
   ·rw [has_behind c hle, has_behind c' hle]
  rw [chain_unique (chainB_weak c) (chainB_weak c') hr]
def runTo (pts : List Int) (f : Nat → Bool) : Nat → List (Int × Int)
 | 0 => []
 | i + 1 => if i + 1 < pts.length ∧ pts[i]?.getD 0 < pts[i + 1]?.getD 0 ∧ f i = true then combStep (runTo pts f i) (pts[i]?.getD 0) (pts[i + 1]?.getD 0) else runTo pts f i
def EndsBy (l : List (Int × Int)) (e : Int) : Prop := ∀ s ∈ l, s.2 ≤ e
theorem chainB_app : ∀ {l : List (Int × Int)} {p : Option Int} {x y : Int}, chainB p l = true → x < y → (∀ e, p = some e → e < x) → (∀ s ∈ l, s.2 < x) → chainB p (l ++ [(x, y)]) = true
 | [], p, x, y, _, h2, h3, _ => by rw [List.nil_append]; exact chainB_cons.2 ⟨h2, h3, rfl⟩
 | s :: r, p, x, y, h1, h2, h3, h4 => by
  obtain ⟨a, b, c⟩ := chainB_cons.1 h1
  rw [List.cons_append]
  exact chainB_cons.2 ⟨a, b, chainB_app c h2 (fun e he => by cases he; exact h4 s List.mem_cons_self) fun q hq => h4 q (List.mem_cons_of_mem _ hq)⟩
theorem chainB_init : ∀ {l : List (Int × Int)} {p : Option Int} {x y : Int}, chainB p (l ++ [(x, y)]) = true → chainB p l = true ∧ x < y ∧ (∀ s ∈ l, s.2 < x) ∧ ∀ e, p = some e → e < x
 | [], p, x, y, h => by
  rw [List.nil_append] at h
  obtain ⟨a, b, _⟩ := chainB_cons.1 h
  exact ⟨rfl, a, by simp, b⟩
 | s :: r, p, x, y, h => by
  rw [List.cons_append] at h
  obtain ⟨a, b, c⟩ := chainB_cons.1 h
  obtain ⟨d, e, f, g⟩ := chainB_init c
  refine ⟨chainB_cons.2 ⟨a, b, d⟩, e, fun q hq => ?_, fun z hz => ?_⟩
  ·rcases List.mem_cons.1 hq with rfl | hq
   ·exact g _ rfl
   ·exact f q hq
  ·have := b z hz; have := g _ rfl; omega
theorem list_last {α : Type} {l : List α} (h : l ≠ []) : ∃ r x, l = r ++ [x] := ⟨l.dropLast, l.getLast h, (List.dropLast_concat_getLast h).symm⟩
theorem combStep_new {out : List (Int × Int)} {x y : Int} (h : ∀ s ∈ out, s.2 < x) : combStep out x y = out ++ [(x, y)] := by
 unfold combStep
 cases hl : out.getLast? with
 | none => rfl
 | some s =>
  have := h s (List.mem_of_getLast? hl)
  simp only
  rw [if_neg (by omega)]
theorem combStep_join {out : List (Int × Int)} {u x y : Int} : combStep (out ++ [(u, x)]) x y = out ++ [(u, y)] := by
 unfold combStep
 rw [List.getLast?_concat]
 simp
structure RunIs (pts : List Int) (g : Int → Bool) (out : List (Int × Int)) (e : Int) : Prop where
 chain : chainB none out = true
 ends : EndsBy out e
 has : ∀ t, t < e → hasB out t = g t
 mem : ∀ s ∈ out, s.1 ∈ pts ∧ s.2 ∈ pts
theorem has_ends {out : List (Int × Int)} {e t : Int} (h : EndsBy out e) (ht : e ≤ t) : hasB out t = false := by
 rw [← Bool.not_eq_true, hasB_iff]
 rintro ⟨s, hs, _, h2⟩
 have := h s hs
 omega
theorem RunIs.step {pts : List Int} {g : Int → Bool} {out : List (Int × Int)} {x y : Int} (h : RunIs pts g out x) (hxy : x < y) (hg : ∀ t, x ≤ t → t < y → g t = true) (hx : x ∈ pts) (hy : y ∈ pts) : RunIs pts g (combStep out x y) y := by
 by_cases hl : ∀ s ∈ out, s.2 < x
 ·rw [combStep_new hl]
  refine ⟨chainB_app h.chain hxy (by simp) hl, fun s hs => ?_, fun t ht => ?_, fun s hs => ?_⟩
  ·rcases List.mem_append.1 hs with hs | hs
   ·have := hl s hs; omega
   ·simp at hs; subst hs; exact Int.le_refl _
  ·rw [hasB_app, hasB_cons, hasB_nil, Bool.or_false]
   rcases Int.lt_or_le t x with h1 | h1
   ·rw [h.has t h1, decide_eq_false (show ¬ x ≤ t by omega)]; simp
   ·rw [has_ends h.ends h1, hg t h1 ht]; simp [h1, ht]
  ·rcases List.mem_append.1 hs with hs | hs
   ·exact h.mem s hs
   ·simp at hs; subst hs; exact ⟨hx, hy⟩
 ·have hne : out ≠ [] := by rintro rfl; exact hl (by simp)
  obtain ⟨r, ⟨u, v⟩, rfl⟩ := list_last hne
  obtain ⟨c1, c2, c3, _⟩ := chainB_init h.chain
  have hv : v = x := by
   have h1 : v ≤ x := h.ends (u, v) (by simp)
   rcases Int.lt_or_le v x with h2 | h2
   ·exfalso
    apply hl
    intro s hs
    rcases List.mem_append.1 hs with hs | hs
    ·have := c3 s hs; omega
    ·simp at hs; subst hs; exact h2
   ·omega
  subst hv
  rw [combStep_join]
  refine ⟨chainB_app c1 (by omega) (by simp) c3, fun s hs => ?_, fun t ht => ?_, fun s hs => ?_⟩
  ·rcases List.mem_append.1 hs with hs | hs
   ·have := c3 s hs; omega
   ·simp at hs; subst hs; exact Int.le_refl _
  ·have h0 := h.has t
   rw [hasB_app, hasB_cons, hasB_nil, Bool.or_false] at h0 ⊢
   rcases Int.lt_or_le t v with h1 | h1
   ·rw [← h0 h1]; simp [h1, show t < y by omega]
   ·rw [hg t h1 ht]
    simp [show u ≤ t by omega, ht]
  ·rcases List.mem_append.1 hs with hs | hs
   ·exact h.mem s (List.mem_append_left _ hs)
   ·simp at hs; subst hs; exact ⟨(h.mem (u, v) (by simp)).1, hy⟩
theorem RunIs.skip {pts : List Int} {g : Int → Bool} {out : List (Int × Int)} {x y : Int} (h : RunIs pts g out x) (hxy : x ≤ y) (hg : ∀ t, x ≤ t → t < y → g t = false) : RunIs pts g out y :=
 ⟨h.chain, fun s hs => by have := h.ends s hs; omega, fun t ht => by
  rcases Int.lt_or_le t x with h1 | h1
  ·exact h.has t h1
  ·rw [has_ends h.ends h1, hg t h1 ht], h.mem⟩
theorem run_inv {pts : List Int} {f : Nat → Bool} {g : Int → Bool} (hs : pts.Pairwise (· ≤ ·)) (hf : ∀ (i : Nat) (x y : Int), pts[i]? = some x → pts[i + 1]? = some y → ∀ t, x ≤ t → t < y → g t = f i)
  (h0 : ∀ x, pts[0]? = some x → ∀ t, t < x → g t = false) : ∀ (i : Nat) (x : Int), pts[i]? = some x → RunIs pts g (runTo pts f i) x
 | 0, x, hx => ⟨rfl, (by intro s hs; cases hs), (fun t ht => by rw [h0 x hx t ht]; rfl), (by intro s hs; cases hs)⟩
 | i + 1, y, hy => by
  have hlt := (List.getElem?_eq_some_iff.1 hy).1
  obtain ⟨x, hx⟩ : ∃ x, pts[i]? = some x := ⟨_, List.getElem?_eq_getElem (by omega)⟩
  have ih := run_inv hs hf h0 i x hx
  have hxy : x ≤ y := by
   rw [List.pairwise_iff_getElem] at hs
   have := hs i (i + 1) (by omega) hlt (by omega)
   rw [(List.getElem?_eq_some_iff.1 hx).2, (List.getElem?_eq_some_iff.1 hy).2] at this
   exact this
  rw [runTo, hx, hy]
  simp only [Option.getD_some]
  split
  ·next h => exact ih.step h.2.1 (fun t h1 h2 => by rw [hf i x y hx hy t h1 h2]; exact h.2.2) (List.mem_of_getElem? hx) (List.mem_of_getElem? hy)
  ·next h =>
   refine ih.skip hxy fun t h1 h2 => ?_
   rw [hf i x y hx hy t h1 h2]
   rw [← Bool.not_eq_true]
   exact fun hh => h ⟨hlt, by omega, hh⟩
theorem run_is {pts : List Int} {f : Nat → Bool} {g : Int → Bool} (hs : pts.Pairwise (· ≤ ·)) (hf : ∀ (i : Nat) (x y : Int), pts[i]? = some x → pts[i + 1]? = some y → ∀ t, x ≤ t → t < y → g t = f i)
  (h0 : ∀ t, (∀ x ∈ pts, t < x) → g t = false) (h1 : ∀ t, (∀ x ∈ pts, x ≤ t) → g t = false) :
  chainB none (runTo pts f pts.length) = true ∧ (∀ t, hasB (runTo pts f pts.length) t = g t) ∧ ∀ s ∈ runTo pts f pts.length, s.1 ∈ pts ∧ s.2 ∈ pts := by
 have low : ∀ x, pts[0]? = some x → ∀ y ∈ pts, x ≤ y := fun x hx y hy => by
  obtain ⟨j, hj⟩ := List.mem_iff_getElem?.1 hy
  rcases j with _ | j
  ·rw [hx] at hj; cases hj; exact Int.le_refl _
  ·rw [List.pairwise_iff_getElem] at hs
   have hl := (List.getElem?_eq_some_iff.1 hj).1
   have := hs 0 (j + 1) (by omega) hl (by omega)
   rw [(List.getElem?_eq_some_iff.1 hx).2, (List.getElem?_eq_some_iff.1 hj).2] at this
   exact this
 cases hp : pts.length with
 | zero =>
  have hn : pts = [] := List.eq_nil_of_length_eq_zero hp
  subst hn
  exact ⟨rfl, (fun t => by rw [h0 t (by simp)]; rfl), (by intro s hs; cases hs)⟩
 | succ n =>
  obtain ⟨x, hx⟩ : ∃ x, pts[n]? = some x := ⟨_, List.getElem?_eq_getElem (by omega)⟩
  have inv := run_inv (f := f) hs hf (fun x hx t ht => h0 t fun y hy => by have := low x hx y hy; omega) n x hx
  have e : runTo pts f (n + 1) = runTo pts f n := by rw [runTo, if_neg (by omega)]
  rw [e]
  refine ⟨inv.chain, fun t => ?_, inv.mem⟩
  rcases Int.lt_or_le t x with h | h
  ·exact inv.has t h
  ·rw [has_ends inv.ends h, h1 t fun y hy => ?_]
   obtain ⟨j, hj⟩ := List.mem_iff_getElem?.1 hy
   have hl := (List.getElem?_eq_some_iff.1 hj).1
   rcases Nat.lt_or_ge j n with hjn | hjn
   ·rw [List.pairwise_iff_getElem] at hs
    have := hs j n hl (by omega) hjn
    rw [(List.getElem?_eq_some_iff.1 hx).2, (List.getElem?_eq_some_iff.1 hj).2] at this
    omega
   ·obtain rfl : j = n := by omega
    rw [hx] at hj; cases hj; exact h
theorem has_const {l : List (Int × Int)} {x t : Int} (hxt : x ≤ t) (h : ∀ s ∈ l, (s.1 ≤ x ∨ t < s.1) ∧ (s.2 ≤ x ∨ t < s.2)) : hasB l t = hasB l x := by
 rw [Bool.eq_iff_iff, hasB_iff, hasB_iff]
 constructor
 ·rintro ⟨s, hs, h1, h2⟩
  have := h s hs
  exact ⟨s, hs, by omega, by omega⟩
 ·rintro ⟨s, hs, h1, h2⟩
  have := h s hs
  exact ⟨s, hs, by omega, by omega⟩
theorem inB_none (k : Int) : inB k false false = false := by unfold inB; split <;> (try split) <;> rfl
theorem sorted_get {p : List Int} (hs : p.Pairwise (· < ·)) {i j : Nat} {x y : Int} (hx : p[i]? = some x) (hy : p[j]? = some y) : x < y ↔ i < j := by
 rw [List.pairwise_iff_getElem] at hs
 obtain ⟨hi, rfl⟩ := List.getElem?_eq_some_iff.1 hx
 obtain ⟨hj, rfl⟩ := List.getElem?_eq_some_iff.1 hy
 constructor
 ·intro h
  rcases Nat.lt_trichotomy i j with h1 | h1 | h1
  ·exact h1
  ·subst h1; omega
  ·have := hs j i hj hi h1; omega
 ·intro h; exact hs i j hi hj h
theorem comb_run (k : Int) (a b : List (Int × Int)) : combL k a b = runTo (insAll (a ++ b)) (fun i => inB k (hasB a ((insAll (a ++ b))[i]?.getD 0)) (hasB b ((insAll (a ++ b))[i]?.getD 0))) (insAll (a ++ b)).length := by
 unfold combL
 have hs := insAll_sorted (a ++ b)
 generalize insAll (a ++ b) = p at hs
 have main : ∀ n, n ≤ p.length - 1 → combTo k a b p n = runTo p (fun i => inB k (hasB a (p[i]?.getD 0)) (hasB b (p[i]?.getD 0))) n := by
  intro n
  induction n with
  | zero => intro _; rfl
  | succ n ih =>
   intro hn
   rw [combTo, runTo, ih (by omega)]
   have hx : p[n]? = some (p[n]'(by omega)) := List.getElem?_eq_getElem (by omega)
   have hy : p[n + 1]? = some (p[n + 1]'(by omega)) := List.getElem?_eq_getElem (by omega)
   have hlt := (sorted_get hs hx hy).2 (Nat.lt_succ_self n)
   rw [hx, hy]
   simp only [Option.getD_some]
   by_cases hb : inB k (hasB a p[n]) (hasB b p[n]) = true
   ·rw [if_pos hb, if_pos ⟨by omega, hlt, hb⟩]
   ·rw [if_neg hb, if_neg (fun h => hb h.2.2)]
 cases hp : p.length with
 | zero => rw [main 0 (by omega)]
 | succ n =>
  rw [show n + 1 - 1 = n by omega, main n (by omega)]
  rw [runTo, if_neg (by omega)]
theorem comb_is (k : Int) (a b : List (Int × Int)) : chainB none (combL k a b) = true ∧ (∀ t, hasB (combL k a b) t = inB k (hasB a t) (hasB b t)) ∧ ∀ s ∈ combL k a b, s.1 ∈ insAll (a ++ b) ∧ s.2 ∈ insAll (a ++ b) := by
 rw [comb_run]
 have hs := insAll_sorted (a ++ b)
 have hall : ∀ s, s ∈ a ∨ s ∈ b → s.1 ∈ insAll (a ++ b) ∧ s.2 ∈ insAll (a ++ b) := fun s h => mem_insAll (List.mem_append.2 h)
 generalize insAll (a ++ b) = p at hs hall
 refine run_is (g := fun t => inB k (hasB a t) (hasB b t)) (hs.imp Int.le_of_lt) (fun i x y hx hy t h1 h2 => ?_) (fun t ht => ?_) (fun t ht => ?_)
 ·have gap : ∀ z ∈ p, z ≤ x ∨ t < z := fun z hz => by
   obtain ⟨j, hj⟩ := List.mem_iff_getElem?.1 hz
   rcases Nat.lt_or_ge i j with h | h
   ·right
    rcases Nat.lt_or_ge (i + 1) j with h3 | h3
    ·have := (sorted_get hs hy hj).2 h3; omega
    ·obtain rfl : j = i + 1 := by omega
     rw [hy] at hj; cases hj; exact h2
   ·left
    rcases Nat.lt_or_ge j i with h3 | h3
    ·have := (sorted_get hs hj hx).2 h3; omega
    ·obtain rfl : j = i := by omega
     rw [hx] at hj; cases hj; exact Int.le_refl _
  (try dsimp only)
  rw [hx, Option.getD_some, has_const h1 (fun s hs' => ⟨gap _ (hall s (Or.inl hs')).1, gap _ (hall s (Or.inl hs')).2⟩), has_const h1 (fun s hs' => ⟨gap _ (hall s (Or.inr hs')).1, gap _ (hall s (Or.inr hs')).2⟩)]
 ·have no : ∀ l : List (Int × Int), (∀ s ∈ l, s.1 ∈ p ∧ s.2 ∈ p) → hasB l t = false := fun l hl => by
   rw [← Bool.not_eq_true, hasB_iff]
   rintro ⟨s, hs', h1, _⟩
   have := ht _ (hl s hs').1
   omega
  (try dsimp only)
  rw [no a fun s h => hall s (Or.inl h), no b fun s h => hall s (Or.inr h), inB_none]
 ·have no : ∀ l : List (Int × Int), (∀ s ∈ l, s.1 ∈ p ∧ s.2 ∈ p) → hasB l t = false := fun l hl => by
   rw [← Bool.not_eq_true, hasB_iff]
   rintro ⟨s, hs', _, h2⟩
   have := ht _ (hl s hs').2
   omega
  (try dsimp only)
  rw [no a fun s h => hall s (Or.inl h), no b fun s h => hall s (Or.inr h), inB_none]
theorem comb_chain (k : Int) (a b : List (Int × Int)) : chainB none (combL k a b) = true := (comb_is k a b).1
theorem comb_has (k : Int) (a b : List (Int × Int)) (t : Int) : hasB (combL k a b) t = inB k (hasB a t) (hasB b t) := (comb_is k a b).2.1 t
theorem comb_eq {k : Int} {a b l : List (Int × Int)} (h1 : chainB none l = true) (h2 : ∀ t, hasB l t = inB k (hasB a t) (hasB b t)) : l = combL k a b :=
 chain_unique h1 (comb_chain k a b) fun t => by rw [h2, comb_has]
structure BdD where
 at_ : Int
 lst : Int
 by_ : Int
 deriving DecidableEq, Inhabited
def bdsL (j : Int) (l : List (Int × Int)) : List BdD := l.flatMap fun s => if s.1 < s.2 then [⟨s.1, j, 1⟩, ⟨s.2, j, -1⟩] else []
def cntB (j t : Int) : List BdD → Int
 | [] => 0
 | b :: r => (if b.lst = j ∧ b.at_ ≤ t then b.by_ else 0) + cntB j t r
theorem cntB_app (j t : Int) : ∀ (a b : List BdD), cntB j t (a ++ b) = cntB j t a + cntB j t b
 | [], b => by simp [cntB]
 | x :: r, b => by rw [List.cons_append, cntB, cntB, cntB_app j t r b]; omega
theorem cntB_perm {j t : Int} {a b : List BdD} (h : a.Perm b) : cntB j t a = cntB j t b := by
 induction h with
 | nil => rfl
 | cons x _ ih => rw [cntB, cntB, ih]
 | swap x y l => simp only [cntB]; omega
 | trans _ _ ih1 ih2 => rw [ih1, ih2]
theorem cntB_other {i j t : Int} (h : i ≠ j) : ∀ l : List (Int × Int), cntB i t (bdsL j l) = 0
 | [] => rfl
 | s :: r => by
  have ih := cntB_other (t := t) h r
  unfold bdsL at *
  rw [List.flatMap_cons, cntB_app, ih]
  split
  ·simp [cntB, Ne.symm h]
  ·simp [cntB]
theorem cntB_has (j t : Int) : ∀ l : List (Int × Int), 0 ≤ cntB j t (bdsL j l) ∧ (0 < cntB j t (bdsL j l) ↔ hasB l t = true)
 | [] => by simp [bdsL, cntB, hasB]
 | s :: r => by
  have ih := cntB_has j t r
  unfold bdsL at *
  rw [List.flatMap_cons, cntB_app, hasB_cons]
  generalize cntB j t (r.flatMap fun s => if s.1 < s.2 then [⟨s.1, j, 1⟩, ⟨s.2, j, -1⟩] else []) = c at *
  have e : cntB j t (if s.1 < s.2 then [⟨s.1, j, 1⟩, ⟨s.2, j, -1⟩] else []) = if s.1 ≤ t ∧ t < s.2 then 1 else 0 := by
   by_cases h0 : s.1 < s.2
   ·rw [if_pos h0]
    simp only [cntB]
    by_cases h1 : s.1 ≤ t
    ·by_cases h2 : s.2 ≤ t
     ·rw [if_pos ⟨trivial, h1⟩, if_pos ⟨trivial, h2⟩, if_neg (by omega)]; omega
     ·rw [if_pos ⟨trivial, h1⟩, if_neg (by simp; omega), if_pos (by omega)]; omega
    ·rw [if_neg (by simp; omega), if_neg (by simp; omega), if_neg (by omega)]; omega
   ·rw [if_neg h0, if_neg (by omega)]; rfl
  rw [e]
  by_cases h : s.1 ≤ t ∧ t < s.2
  ·rw [if_pos h]
   simp only [decide_eq_true h.1, decide_eq_true h.2, Bool.and_true, Bool.true_or, iff_true]
   omega
  ·rw [if_neg h]
   have : (decide (s.1 ≤ t) && decide (t < s.2)) = false := by simpa using fun h1 => by simpa [h1] using h
   rw [this, Bool.false_or]
   refine ⟨by omega, ?_⟩
   rw [← ih.2]
   omega
def openB (all : List BdD) (j : Int) : Nat → Int
 | 0 => 0
 | n + 1 => openB all j n + (if (all[n]?.getD default).lst = j then (all[n]?.getD default).by_ else 0)
theorem openB_take (all : List BdD) (j : Int) : ∀ n, n ≤ all.length → ∀ t, (∀ b ∈ all.take n, b.at_ ≤ t) → openB all j n = cntB j t (all.take n)
 | 0, _, _, _ => by simp [openB, cntB]
 | n + 1, hn, t, h => by
  have e : all[n]? = some (all[n]'(by omega)) := List.getElem?_eq_getElem (by omega)
  rw [List.take_add_one, e] at h ⊢
  rw [openB, openB_take all j n (by omega) t (fun b hb => h b (List.mem_append_left _ hb)), Option.toList_some, cntB_app]
  have h1 := h (all[n]'(by omega)) (List.mem_append_right _ (by simp))
  simp only [e, Option.getD_some, cntB, Int.add_zero]
  by_cases hj : (all[n]'(by omega)).lst = j
  ·rw [if_pos hj, if_pos ⟨hj, h1⟩]
  ·rw [if_neg hj, if_neg (fun h => hj h.1)]
theorem cntB_late {j t : Int} : ∀ {l : List BdD}, (∀ b ∈ l, t < b.at_) → cntB j t l = 0
 | [], _ => rfl
 | b :: r, h => by
  rw [cntB, cntB_late fun q hq => h q (List.mem_cons_of_mem _ hq), if_neg (by have := h b List.mem_cons_self; omega)]
  rfl
def sweepL (keep : Bool → Bool → Bool) (all : List BdD) (n : Nat) : List (Int × Int) :=
 runTo (all.map (·.at_)) (fun i => keep (decide (0 < openB all 0 (i + 1))) (decide (0 < openB all 1 (i + 1)))) n
theorem sweep_is {k : Int} {a b : List (Int × Int)} {all : List BdD} (hp : all.Perm (bdsL 0 a ++ bdsL 1 b)) (hs : all.Pairwise fun x y => x.at_ ≤ y.at_) : sweepL (inB k) all all.length = combL k a b := by
 have c0 : ∀ t, cntB 0 t all = cntB 0 t (bdsL 0 a) := fun t => by rw [cntB_perm hp, cntB_app, cntB_other (i := 0) (j := 1) (by decide)]; omega
 have c1 : ∀ t, cntB 1 t all = cntB 1 t (bdsL 1 b) := fun t => by rw [cntB_perm hp, cntB_app, cntB_other (i := 1) (j := 0) (by decide)]; omega
 have hA : ∀ t, decide (0 < cntB 0 t all) = hasB a t := fun t => by rw [Bool.eq_iff_iff, decide_eq_true_iff, c0, (cntB_has 0 t a).2]
 have hB : ∀ t, decide (0 < cntB 1 t all) = hasB b t := fun t => by rw [Bool.eq_iff_iff, decide_eq_true_iff, c1, (cntB_has 1 t b).2]
 have hm : ∀ (j : Nat) (l : List (Int × Int)), ∀ s ∈ l, s.1 < s.2 → (⟨s.1, j, 1⟩ : BdD) ∈ bdsL j l ∧ (⟨s.2, j, -1⟩ : BdD) ∈ bdsL j l := fun j l s hs h => by
  unfold bdsL
  constructor
  ·rw [List.mem_flatMap]; exact ⟨s, hs, by rw [if_pos h]; simp⟩
  ·rw [List.mem_flatMap]; exact ⟨s, hs, by rw [if_pos h]; simp⟩
 have hin : ∀ (s : Int × Int), s.1 < s.2 → (s ∈ a ∨ s ∈ b) → s.1 ∈ all.map (·.at_) ∧ s.2 ∈ all.map (·.at_) := fun s h hh => by
  rw [List.mem_map, List.mem_map]
  rcases hh with hh | hh
  ·exact ⟨⟨_, hp.mem_iff.2 (List.mem_append_left _ (hm 0 a s hh h).1), rfl⟩, ⟨_, hp.mem_iff.2 (List.mem_append_left _ (hm 0 a s hh h).2), rfl⟩⟩
  ·exact ⟨⟨_, hp.mem_iff.2 (List.mem_append_right _ (hm 1 b s hh h).1), rfl⟩, ⟨_, hp.mem_iff.2 (List.mem_append_right _ (hm 1 b s hh h).2), rfl⟩⟩
 have key : ∀ (j : Int) (i : Nat) (x y : Int), (all.map (·.at_))[i]? = some x → (all.map (·.at_))[i + 1]? = some y → ∀ t, x ≤ t → t < y → openB all j (i + 1) = cntB j t all := by
  intro j i x y hx hy t h1 h2
  rw [List.getElem?_map] at hx hy
  obtain ⟨p, hp', rfl⟩ := Option.map_eq_some_iff.1 hx
  obtain ⟨q, hq', rfl⟩ := Option.map_eq_some_iff.1 hy
  have hl := (List.getElem?_eq_some_iff.1 hq').1
  have hs' := hs
  rw [List.pairwise_iff_getElem] at hs'
  have hpi := (List.getElem?_eq_some_iff.1 hp').2
  have hqi := (List.getElem?_eq_some_iff.1 hq').2
  rw [openB_take all j (i + 1) (by omega) t ?_]
  ·conv => rhs; rw [← List.take_append_drop (i + 1) all]
   rw [cntB_app, cntB_late (l := all.drop (i + 1)), Int.add_zero]
   intro c hc
   obtain ⟨m, hm', rfl⟩ := List.mem_iff_getElem.1 hc
   rw [List.length_drop] at hm'
   rw [List.getElem_drop]
   rcases Nat.eq_zero_or_pos m with rfl | hm0
   ·simp only [Nat.add_zero, hqi]; exact h2
   ·have := hs' (i + 1) (i + 1 + m) hl (by omega) (by omega)
    rw [hqi] at this; omega
  ·intro c hc
   obtain ⟨m, hm', rfl⟩ := List.mem_iff_getElem.1 hc
   rw [List.length_take] at hm'
   rw [List.getElem_take]
   rcases Nat.lt_or_ge m i with h | h
   ·have := hs' m i (by omega) (by omega) h
    rw [hpi] at this; omega
   ·obtain rfl : m = i := by omega
    rw [hpi]; exact h1
 have hlen : all.length = (all.map (·.at_)).length := by simp
 have run := run_is (pts := all.map (·.at_)) (f := fun i => inB k (decide (0 < openB all 0 (i + 1))) (decide (0 < openB all 1 (i + 1)))) (g := fun t => inB k (hasB a t) (hasB b t))
  (by rw [List.pairwise_map]; exact hs)
  (fun i x y hx hy t h1 h2 => by
   (try dsimp only)
   rw [key 0 i x y hx hy t h1 h2, key 1 i x y hx hy t h1 h2, hA, hB])
  (fun t ht => by
   have no : ∀ l : List (Int × Int), (∀ s ∈ l, s.1 < s.2 → s.1 ∈ all.map (·.at_) ∧ s.2 ∈ all.map (·.at_)) → hasB l t = false := fun l hl => by
    rw [← Bool.not_eq_true, hasB_iff]
    rintro ⟨s, hs', h1, h2⟩
    have := ht _ (hl s hs' (by omega)).1
    omega
   (try dsimp only)
   rw [no a fun s h h' => hin s h' (Or.inl h), no b fun s h h' => hin s h' (Or.inr h), inB_none])
  (fun t ht => by
   have no : ∀ l : List (Int × Int), (∀ s ∈ l, s.1 < s.2 → s.1 ∈ all.map (·.at_) ∧ s.2 ∈ all.map (·.at_)) → hasB l t = false := fun l hl => by
    rw [← Bool.not_eq_true, hasB_iff]
    rintro ⟨s, hs', h1, h2⟩
    have := ht _ (hl s hs' (by omega)).2
    omega
   (try dsimp only)
   rw [no a fun s h h' => hin s h' (Or.inl h), no b fun s h h' => hin s h' (Or.inr h), inB_none])
 unfold sweepL
 rw [hlen]
 exact comb_eq run.1 run.2.1
end Go.Proofs.YtgolicoalldidaaGreat
