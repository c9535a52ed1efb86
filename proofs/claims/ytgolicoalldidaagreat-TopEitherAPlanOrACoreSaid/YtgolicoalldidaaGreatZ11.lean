import Derived.Test.YtgolicoalldidaaGreatZ10
import Derived.Shelf.SlSortCmp.NoneTotal
import Derived.Shelf.SlGeneric
import Derived.Ground.SlsfProg
import Derived.Test.YtgolicoalldidaaGreatProg
import Derived.Shelf.Bits.Mul64
import Derived.Ground.NamesProg
import Derived.Laws.ResultCell
set_option maxHeartbeats 12800000
namespace Go.Proofs.YtgolicoalldidaaGreat
open Go.RowKit
theorem chainB_cons {p : Option Int} {s : Int × Int} {r : List (Int × Int)} : chainB p (s :: r) = true ↔ s.1 < s.2 ∧ (∀ e, p = some e → e < s.1) ∧ chainB (some s.2) r = true := by
 simp only [chainB, Bool.and_eq_true, decide_eq_true_eq]
 cases p with
 | none => simp
 | some e => simp [and_assoc]
theorem chainB_mem : ∀ {l : List (Int × Int)} {p : Option Int}, chainB p l = true → ∀ s ∈ l, s.1 < s.2 ∧ ∀ e, p = some e → e < s.1
 | [], _, _, s, hs => by cases hs
 | x :: r, p, h, s, hs => by
  obtain ⟨h1, h2, h3⟩ := chainB_cons.1 h
  rcases List.mem_cons.1 hs with rfl | hs
  ·exact ⟨h1, h2⟩
  ·have := chainB_mem h3 s hs
   exact ⟨this.1, fun e he => by have a := h2 e he; have b := this.2 _ rfl; omega⟩
theorem chainB_weak {l : List (Int × Int)} {p : Option Int} (h : chainB p l = true) : chainB none l = true := by
 cases l with
 | nil => rfl
 | cons s r => obtain ⟨a, _, c⟩ := chainB_cons.1 h; exact chainB_cons.2 ⟨a, by simp, c⟩
theorem hasB_cons (s : Int × Int) (r : List (Int × Int)) (t : Int) : hasB (s :: r) t = (decide (s.1 ≤ t) && decide (t < s.2) || hasB r t) := by simp [hasB]
theorem hasB_nil (t : Int) : hasB [] t = false := rfl
theorem hasB_app (a b : List (Int × Int)) (t : Int) : hasB (a ++ b) t = (hasB a t || hasB b t) := by simp [hasB]
theorem has_behind {l : List (Int × Int)} {e t : Int} (h : chainB (some e) l = true) (ht : t ≤ e) : hasB l t = false := by
 rw [← Bool.not_eq_true, hasB_iff]
 rintro ⟨s, hs, h1, h2⟩
 have := (chainB_mem h s hs).2 e rfl
 omega
theorem chain_unique : ∀ {l m : List (Int × Int)}, chainB none l = true → chainB none m = true → (∀ t, hasB l t = hasB m t) → l = m
 | [], [], _, _, _ => rfl
 | [], s :: r, _, hm, h => by
  obtain ⟨a, _, _⟩ := chainB_cons.1 hm
  have := h s.1
  rw [hasB_cons] at this
  simp [hasB_nil, a] at this
 | s :: r, [], hl, _, h => by
  obtain ⟨a, _, _⟩ := chainB_cons.1 hl
  have := h s.1
  rw [hasB_cons] at this
  simp [hasB_nil, a] at this
 | s :: r, s' :: r', hl, hm, h => by
  obtain ⟨a, _, c⟩ := chainB_cons.1 hl
  obtain ⟨a', _, c'⟩ := chainB_cons.1 hm
  obtain ⟨x, y⟩ := s
  obtain ⟨x', y'⟩ := s'
  dsimp only at *
  have low : ∀ {x y : Int} {r : List (Int × Int)}, x < y → chainB (some y) r = true → ∀ t, t ≤ y → hasB ((x, y) :: r) t = (decide (x ≤ t) && decide (t < y)) := fun {x y r} _ hc t ht => by
   rw [hasB_cons, has_behind hc ht, Bool.or_false]
  have e1 : x = x' := by
   rcases Int.lt_trichotomy x x' with hlt | he | hgt
   ·have h1 := h x
    rw [low a c x (by omega), low a' c' x (by omega)] at h1
    have h2 := congrArg (· = true) h1
    simp only [Bool.and_eq_true, decide_eq_true_eq, eq_iff_iff] at h2
    omega
   ·exact he
   ·have h1 := h x'
    rw [low a c x' (by omega), low a' c' x' (by omega)] at h1
    have h2 := congrArg (· = true) h1
    simp only [Bool.and_eq_true, decide_eq_true_eq, eq_iff_iff] at h2
    omega
  subst e1
  have e2 : y = y' := by
   rcases Int.lt_trichotomy y y' with hlt | he | hgt
   ·have h1 := h y
    rw [low a c y (by omega), low a' c' y (by omega)] at h1
    have h2 := congrArg (· = true) h1
    simp only [Bool.and_eq_true, decide_eq_true_eq, eq_iff_iff] at h2
    omega
   ·exact he
   ·have h1 := h y'
    rw [low a c y' (by omega), low a' c' y' (by omega)] at h1
    have h2 := congrArg (· = true) h1
    simp only [Bool.and_eq_true, decide_eq_true_eq, eq_iff_iff] at h2
    omega
  subst e2
  have hr : ∀ t, hasB r t = hasB r' t := fun t => by
   rcases Int.lt_or_le y t with hlt | hle
   ·have h1 := h t
    rw [hasB_cons, hasB_cons] at h1
    have e : decide (t < y) = false := by simpa using Int.le_of_lt hlt
    simpa [e] using h1
   ·rw [has_behind c hle, has_behind c' hle]
  rw [chain_unique (chainB_weak c) (chainB_weak c') hr]
def runTo (pts : List Int) (f : Nat → Bool) : Nat → List (Int × Int)
 | 0 => []
 | i + 1 => if i + 1 < pts.length ∧ pts[i]?.getD 0 < pts[i + 1]?.getD 0 ∧ f i = true then combStep (runTo pts f i) (pts[i]?.getD 0) (pts[i + 1]?.getD 0) else runTo pts f i
def EndsBy (l : List (Int × Int)) (e : Int) : Prop := ∀ s ∈ l, s.2 ≤ e
theorem chainB_app : ∀ {l : List (Int × Int)} {p : Option Int} {x y : Int}, chainB p l = true → x < y → (∀ e, p = some e → e < x) → (∀ s ∈ l, s.2 < x) → chainB p (l ++ [(x, y)]) = true
 | [], p, x, y, _, h2, h3, _ => by rw [List.nil_append]; exact chainB_cons.2 ⟨h2, h3, rfl⟩
 | s :: r, p, x, y, h1, h2, h3, h4 => by
  obtain ⟨a, b, c⟩ := chainB_cons.1 h1
  rw [List.cons_append]
  exact chainB_cons.2 ⟨a, b, chainB_app c h2 (fun e he => by cases he; exact h4 s List.mem_cons_self) fun q hq => h4 q (List.mem_cons_of_mem _ hq)⟩
theorem chainB_init : ∀ {l : List (Int × Int)} {p : Option Int} {x y : Int}, chainB p (l ++ [(x, y)]) = true → chainB p l = true ∧ x < y ∧ (∀ s ∈ l, s.2 < x) ∧ ∀ e, p = some e → e < x
 | [], p, x, y, h => by
  rw [List.nil_append] at h
  obtain ⟨a, b, _⟩ := chainB_cons.1 h
  exact ⟨rfl, a, by simp, b⟩
 | s :: r, p, x, y, h => by
  rw [List.cons_append] at h
  obtain ⟨a, b, c⟩ := chainB_cons.1 h
  obtain ⟨d, e, f, g⟩ := chainB_init c
  refine ⟨chainB_cons.2 ⟨a, b, d⟩, e, fun q hq => ?_, fun z hz => ?_⟩
  ·rcases List.mem_cons.1 hq with rfl | hq
   ·exact g _ rfl
   ·exact f q hq
  ·have := b z hz; have := g _ rfl; omega
theorem list_last {α : Type} {l : List α} (h : l ≠ []) : ∃ r x, l = r ++ [x] := ⟨l.dropLast, l.getLast h, (List.dropLast_concat_getLast h).symm⟩
theorem combStep_new {out : List (Int × Int)} {x y : Int} (h : ∀ s ∈ out, s.2 < x) : combStep out x y = out ++ [(x, y)] := by
 unfold combStep
 cases hl : out.getLast? with
 | none => rfl
 | some s =>
  have := h s (List.mem_of_getLast? hl)
  simp only
  rw [if_neg (by omega)]
theorem combStep_join {out : List (Int × Int)} {u x y : Int} : combStep (out ++ [(u, x)]) x y = out ++ [(u, y)] := by
 unfold combStep
 rw [List.getLast?_concat]
 simp
structure RunIs (pts : List Int) (g : Int → Bool) (out : List (Int × Int)) (e : Int) : Prop where
 chain : chainB none out = true
 ends : EndsBy out e
 has : ∀ t, t < e → hasB out t = g t
 mem : ∀ s ∈ out, s.1 ∈ pts ∧ s.2 ∈ pts
theorem has_ends {out : List (Int × Int)} {e t : Int} (h : EndsBy out e) (ht : e ≤ t) : hasB out t = false := by
 rw [← Bool.not_eq_true, hasB_iff]
 rintro ⟨s, hs, _, h2⟩
 have := h s hs
 omega
theorem RunIs.step {pts : List Int} {g : Int → Bool} {out : List (Int × Int)} {x y : Int} (h : RunIs pts g out x) (hxy : x < y) (hg : ∀ t, x ≤ t → t < y → g t = true) (hx : x ∈ pts) (hy : y ∈ pts) : RunIs pts g (combStep out x y) y := by
 by_cases hl : ∀ s ∈ out, s.2 < x
 ·rw [combStep_new hl]
  refine ⟨chainB_app h.chain hxy (by simp) hl, fun s hs => ?_, fun t ht => ?_, fun s hs => ?_⟩
  ·rcases List.mem_append.1 hs with hs | hs
   ·have := hl s hs; omega
   ·simp at hs; subst hs; exact Int.le_refl _
  ·rw [hasB_app, hasB_cons, hasB_nil, Bool.or_false]
   rcases Int.lt_or_le t x with h1 | h1
   ·rw [h.has t h1, decide_eq_false (show ¬ x ≤ t by omega)]; simp
   ·rw [has_ends h.ends h1, hg t h1 ht]; simp [h1, ht]
  ·rcases List.mem_append.1 hs with hs | hs
   ·exact h.mem s hs
   ·simp at hs; subst hs; exact ⟨hx, hy⟩
 ·have hne : out ≠ [] := by rintro rfl; exact hl (by simp)
  obtain ⟨r, ⟨u, v⟩, rfl⟩ := list_last hne
  obtain ⟨c1, c2, c3, _⟩ := chainB_init h.chain
  have hv : v = x := by
   have h1 : v ≤ x := h.ends (u, v) (by simp)
   rcases Int.lt_or_le v x with h2 | h2
   ·exfalso
    apply hl
    intro s hs
    rcases List.mem_append.1 hs with hs | hs
    ·have := c3 s hs; omega
    ·simp at hs; subst hs; exact h2
   ·omega
  subst hv
  rw [combStep_join]
  refine ⟨chainB_app c1 (by omega) (by simp) c3, fun s hs => ?_, fun t ht => ?_, fun s hs => ?_⟩
  ·rcases List.mem_append.1 hs with hs | hs
   ·have := c3 s hs; omega
   ·simp at hs; subst hs; exact Int.le_refl _
  ·have h0 := h.has t
   rw [hasB_app, hasB_cons, hasB_nil, Bool.or_false] at h0 ⊢
   rcases Int.lt_or_le t v with h1 | h1
   ·rw [← h0 h1]; simp [h1, show t < y by omega]
   ·rw [hg t h1 ht]
    simp [show u ≤ t by omega, ht]
  ·rcases List.mem_append.1 hs with hs | hs
   ·exact h.mem s (List.mem_append_left _ hs)
   ·simp at hs; subst hs; exact ⟨(h.mem (u, v) (by simp)).1, hy⟩
theorem RunIs.skip {pts : List Int} {g : Int → Bool} {out : List (Int × Int)} {x y : Int} (h : RunIs pts g out x) (hxy : x ≤ y) (hg : ∀ t, x ≤ t → t < y → g t = false) : RunIs pts g out y :=
 ⟨h.chain, fun s hs => by have := h.ends s hs; omega, fun t ht => by
  rcases Int.lt_or_le t x with h1 | h1
  ·exact h.has t h1
  ·rw [has_ends h.ends h1, hg t h1 ht], h.mem⟩
theorem run_inv {pts : List Int} {f : Nat → Bool} {g : Int → Bool} (hs : pts.Pairwise (· ≤ ·)) (hf : ∀ (i : Nat) (x y : Int), pts[i]? = some x → pts[i + 1]? = some y → ∀ t, x ≤ t → t < y → g t = f i)
  (h0 : ∀ x, pts[0]? = some x → ∀ t, t < x → g t = false) : ∀ (i : Nat) (x : Int), pts[i]? = some x → RunIs pts g (runTo pts f i) x
 | 0, x, hx => ⟨rfl, (by intro s hs; cases hs), (fun t ht => by rw [h0 x hx t ht]; rfl), (by intro s hs; cases hs)⟩
 | i + 1, y, hy => by
  have hlt := (List.getElem?_eq_some_iff.1 hy).1
  obtain ⟨x, hx⟩ : ∃ x, pts[i]? = some x := ⟨_, List.getElem?_eq_getElem (by omega)⟩
  have ih := run_inv hs hf h0 i x hx
  have hxy : x ≤ y := by
   rw [List.pairwise_iff_getElem] at hs
   have := hs i (i + 1) (by omega) hlt (by omega)
   rw [(List.getElem?_eq_some_iff.1 hx).2, (List.getElem?_eq_some_iff.1 hy).2] at this
   exact this
  rw [runTo, hx, hy]
  simp only [Option.getD_some]
  split
  ·next h => exact ih.step h.2.1 (fun t h1 h2 => by rw [hf i x y hx hy t h1 h2]; exact h.2.2) (List.mem_of_getElem? hx) (List.mem_of_getElem? hy)
  ·next h =>
   refine ih.skip hxy fun t h1 h2 => ?_
   rw [hf i x y hx hy t h1 h2]
   rw [← Bool.not_eq_true]
   exact fun hh => h ⟨hlt, by omega, hh⟩
theorem run_is {pts : List Int} {f : Nat → Bool} {g : Int → Bool} (hs : pts.Pairwise (· ≤ ·)) (hf : ∀ (i : Nat) (x y : Int), pts[i]? = some x → pts[i + 1]? = some y → ∀ t, x ≤ t → t < y → g t = f i)
  (h0 : ∀ t, (∀ x ∈ pts, t < x) → g t = false) (h1 : ∀ t, (∀ x ∈ pts, x ≤ t) → g t = false) :
  chainB none (runTo pts f pts.length) = true ∧ (∀ t, hasB (runTo pts f pts.length) t = g t) ∧ ∀ s ∈ runTo pts f pts.length, s.1 ∈ pts ∧ s.2 ∈ pts := by
 have low : ∀ x, pts[0]? = some x → ∀ y ∈ pts, x ≤ y := fun x hx y hy => by
  obtain ⟨j, hj⟩ := List.mem_iff_getElem?.1 hy
  rcases j with _ | j
  ·rw [hx] at hj; cases hj; exact Int.le_refl _
  ·rw [List.pairwise_iff_getElem] at hs
   have hl := (List.getElem?_eq_some_iff.1 hj).1
   have := hs 0 (j + 1) (by omega) hl (by omega)
   rw [(List.getElem?_eq_some_iff.1 hx).2, (List.getElem?_eq_some_iff.1 hj).2] at this
   exact this
 cases hp : pts.length with
 | zero =>
  have hn : pts = [] := List.eq_nil_of_length_eq_zero hp
  subst hn
  exact ⟨rfl, (fun t => by rw [h0 t (by simp)]; rfl), (by intro s hs; cases hs)⟩
 | succ n =>
  obtain ⟨x, hx⟩ : ∃ x, pts[n]? = some x := ⟨_, List.getElem?_eq_getElem (by omega)⟩
  have inv := run_inv (f := f) hs hf (fun x hx t ht => h0 t fun y hy => by have := low x hx y hy; omega) n x hx
  have e : runTo pts f (n + 1) = runTo pts f n := by rw [runTo, if_neg (by omega)]
  rw [e]
  refine ⟨inv.chain, fun t => ?_, inv.mem⟩
  rcases Int.lt_or_le t x with h | h
  ·exact inv.has t h
  ·rw [has_ends inv.ends h, h1 t fun y hy => ?_]
   obtain ⟨j, hj⟩ := List.mem_iff_getElem?.1 hy
   have hl := (List.getElem?_eq_some_iff.1 hj).1
   rcases Nat.lt_or_ge j n with hjn | hjn
   ·rw [List.pairwise_iff_getElem] at hs
    have := hs j n hl (by omega) hjn
    rw [(List.getElem?_eq_some_iff.1 hx).2, (List.getElem?_eq_some_iff.1 hj).2] at this
    omega
   ·obtain rfl : j = n := by omega
    rw [hx] at hj; cases hj; exact h
theorem has_const {l : List (Int × Int)} {x t : Int} (hxt : x ≤ t) (h : ∀ s ∈ l, (s.1 ≤ x ∨ t < s.1) ∧ (s.2 ≤ x ∨ t < s.2)) : hasB l t = hasB l x := by
 rw [Bool.eq_iff_iff, hasB_iff, hasB_iff]
 constructor
 ·rintro ⟨s, hs, h1, h2⟩
  have := h s hs
  exact ⟨s, hs, by omega, by omega⟩
 ·rintro ⟨s, hs, h1, h2⟩
  have := h s hs
  exact ⟨s, hs, by omega, by omega⟩
theorem inB_none (k : Int) : inB k false false = false := by unfold inB; split <;> (try split) <;> rfl
theorem sorted_get {p : List Int} (hs : p.Pairwise (· < ·)) {i j : Nat} {x y : Int} (hx : p[i]? = some x) (hy : p[j]? = some y) : x < y ↔ i < j := by
 rw [List.pairwise_iff_getElem] at hs
 obtain ⟨hi, rfl⟩ := List.getElem?_eq_some_iff.1 hx
 obtain ⟨hj, rfl⟩ := List.getElem?_eq_some_iff.1 hy
 constructor
 ·intro h
  rcases Nat.lt_trichotomy i j with h1 | h1 | h1
  ·exact h1
  ·subst h1; omega
  ·have := hs j i hj hi h1; omega
 ·intro h; exact hs i j hi hj h
theorem comb_run (k : Int) (a b : List (Int × Int)) : combL k a b = runTo (insAll (a ++ b)) (fun i => inB k (hasB a ((insAll (a ++ b))[i]?.getD 0)) (hasB b ((insAll (a ++ b))[i]?.getD 0))) (insAll (a ++ b)).length := by
 unfold combL
 have hs := insAll_sorted (a ++ b)
 generalize insAll (a ++ b) = p at hs
 have main : ∀ n, n ≤ p.length - 1 → combTo k a b p n = runTo p (fun i => inB k (hasB a (p[i]?.getD 0)) (hasB b (p[i]?.getD 0))) n := by
  intro n
  induction n with
  | zero => intro _; rfl
  | succ n ih =>
   intro hn
   rw [combTo, runTo, ih (by omega)]
   have hx : p[n]? = some (p[n]'(by omega)) := List.getElem?_eq_getElem (by omega)
   have hy : p[n + 1]? = some (p[n + 1]'(by omega)) := List.getElem?_eq_getElem (by omega)
   have hlt := (sorted_get hs hx hy).2 (Nat.lt_succ_self n)
   rw [hx, hy]
   simp only [Option.getD_some]
   by_cases hb : inB k (hasB a p[n]) (hasB b p[n]) = true
   ·rw [if_pos hb, if_pos ⟨by omega, hlt, hb⟩]
   ·rw [if_neg hb, if_neg (fun h => hb h.2.2)]
 cases hp : p.length with
 | zero => rw [main 0 (by omega)]
 | succ n =>
  rw [show n + 1 - 1 = n by omega, main n (by omega)]
  rw [runTo, if_neg (by omega)]
theorem comb_is (k : Int) (a b : List (Int × Int)) : chainB none (combL k a b) = true ∧ (∀ t, hasB (combL k a b) t = inB k (hasB a t) (hasB b t)) ∧ ∀ s ∈ combL k a b, s.1 ∈ insAll (a ++ b) ∧ s.2 ∈ insAll (a ++ b) := by
 rw [comb_run]
 have hs := insAll_sorted (a ++ b)
 have hall : ∀ s, s ∈ a ∨ s ∈ b → s.1 ∈ insAll (a ++ b) ∧ s.2 ∈ insAll (a ++ b) := fun s h => mem_insAll (List.mem_append.2 h)
 generalize insAll (a ++ b) = p at hs hall
 refine run_is (g := fun t => inB k (hasB a t) (hasB b t)) (hs.imp Int.le_of_lt) (fun i x y hx hy t h1 h2 => ?_) (fun t ht => ?_) (fun t ht => ?_)
 ·have gap : ∀ z ∈ p, z ≤ x ∨ t < z := fun z hz => by
   obtain ⟨j, hj⟩ := List.mem_iff_getElem?.1 hz
   rcases Nat.lt_or_ge i j with h | h
   ·right
    rcases Nat.lt_or_ge (i + 1) j with h3 | h3
    ·have := (sorted_get hs hy hj).2 h3; omega
    ·obtain rfl : j = i + 1 := by omega
     rw [hy] at hj; cases hj; exact h2
   ·left
    rcases Nat.lt_or_ge j i with h3 | h3
    ·have := (sorted_get hs hj hx).2 h3; omega
    ·obtain rfl : j = i := by omega
     rw [hx] at hj; cases hj; exact Int.le_refl _
  (try dsimp only)
  rw [hx, Option.getD_some, has_const h1 (fun s hs' => ⟨gap _ (hall s (Or.inl hs')).1, gap _ (hall s (Or.inl hs')).2⟩), has_const h1 (fun s hs' => ⟨gap _ (hall s (Or.inr hs')).1, gap _ (hall s (Or.inr hs')).2⟩)]
 ·have no : ∀ l : List (Int × Int), (∀ s ∈ l, s.1 ∈ p ∧ s.2 ∈ p) → hasB l t = false := fun l hl => by
   rw [← Bool.not_eq_true, hasB_iff]
   rintro ⟨s, hs', h1, _⟩
   have := ht _ (hl s hs').1
   omega
  (try dsimp only)
  rw [no a fun s h => hall s (Or.inl h), no b fun s h => hall s (Or.inr h), inB_none]
 ·have no : ∀ l : List (Int × Int), (∀ s ∈ l, s.1 ∈ p ∧ s.2 ∈ p) → hasB l t = false := fun l hl => by
   rw [← Bool.not_eq_true, hasB_iff]
   rintro ⟨s, hs', _, h2⟩
   have := ht _ (hl s hs').2
   omega
  (try dsimp only)
  rw [no a fun s h => hall s (Or.inl h), no b fun s h => hall s (Or.inr h), inB_none]
theorem comb_chain (k : Int) (a b : List (Int × Int)) : chainB none (combL k a b) = true := (comb_is k a b).1
theorem comb_has (k : Int) (a b : List (Int × Int)) (t : Int) : hasB (combL k a b) t = inB k (hasB a t) (hasB b t) := (comb_is k a b).2.1 t
theorem comb_eq {k : Int} {a b l : List (Int × Int)} (h1 : chainB none l = true) (h2 : ∀ t, hasB l t = inB k (hasB a t) (hasB b t)) : l = combL k a b :=
 chain_unique h1 (comb_chain k a b) fun t => by rw [h2, comb_has]
structure BdD where
 at_ : Int
 lst : Int
 by_ : Int
 deriving DecidableEq, Inhabited
def bdsL (j : Int) (l : List (Int × Int)) : List BdD := l.flatMap fun s => if s.1 < s.2 then [⟨s.1, j, 1⟩, ⟨s.2, j, -1⟩] else []
def cntB (j t : Int) : List BdD → Int
 | [] => 0
 | b :: r => (if b.lst = j ∧ b.at_ ≤ t then b.by_ else 0) + cntB j t r
theorem cntB_app (j t : Int) : ∀ (a b : List BdD), cntB j t (a ++ b) = cntB j t a + cntB j t b
 | [], b => by simp [cntB]
 | x :: r, b => by rw [List.cons_append, cntB, cntB, cntB_app j t r b]; omega
theorem cntB_perm {j t : Int} {a b : List BdD} (h : a.Perm b) : cntB j t a = cntB j t b := by
 induction h with
 | nil => rfl
 | cons x _ ih => rw [cntB, cntB, ih]
 | swap x y l => simp only [cntB]; omega
 | trans _ _ ih1 ih2 => rw [ih1, ih2]
theorem cntB_other {i j t : Int} (h : i ≠ j) : ∀ l : List (Int × Int), cntB i t (bdsL j l) = 0
 | [] => rfl
 | s :: r => by
  have ih := cntB_other (t := t) h r
  unfold bdsL at *
  rw [List.flatMap_cons, cntB_app, ih]
  split
  ·simp [cntB, Ne.symm h]
  ·simp [cntB]
theorem cntB_has (j t : Int) : ∀ l : List (Int × Int), 0 ≤ cntB j t (bdsL j l) ∧ (0 < cntB j t (bdsL j l) ↔ hasB l t = true)
 | [] => by simp [bdsL, cntB, hasB]
 | s :: r => by
  have ih := cntB_has j t r
  unfold bdsL at *
  rw [List.flatMap_cons, cntB_app, hasB_cons]
  generalize cntB j t (r.flatMap fun s => if s.1 < s.2 then [⟨s.1, j, 1⟩, ⟨s.2, j, -1⟩] else []) = c at *
  have e : cntB j t (if s.1 < s.2 then [⟨s.1, j, 1⟩, ⟨s.2, j, -1⟩] else []) = if s.1 ≤ t ∧ t < s.2 then 1 else 0 := by
   by_cases h0 : s.1 < s.2
   ·rw [if_pos h0]
    simp only [cntB]
    by_cases h1 : s.1 ≤ t
    ·by_cases h2 : s.2 ≤ t
     ·rw [if_pos ⟨trivial, h1⟩, if_pos ⟨trivial, h2⟩, if_neg (by omega)]; omega
     ·rw [if_pos ⟨trivial, h1⟩, if_neg (by simp; omega), if_pos (by omega)]; omega
    ·rw [if_neg (by simp; omega), if_neg (by simp; omega), if_neg (by omega)]; omega
   ·rw [if_neg h0, if_neg (by omega)]; rfl
  rw [e]
  by_cases h : s.1 ≤ t ∧ t < s.2
  ·rw [if_pos h]
   simp only [decide_eq_true h.1, decide_eq_true h.2, Bool.and_true, Bool.true_or, iff_true]
   omega
  ·rw [if_neg h]
   have : (decide (s.1 ≤ t) && decide (t < s.2)) = false := by simpa using fun h1 => by simpa [h1] using h
   rw [this, Bool.false_or]
   refine ⟨by omega, ?_⟩
   rw [← ih.2]
   omega
def openB (all : List BdD) (j : Int) : Nat → Int
 | 0 => 0
 | n + 1 => openB all j n + (if (all[n]?.getD default).lst = j then (all[n]?.getD default).by_ else 0)
theorem openB_take (all : List BdD) (j : Int) : ∀ n, n ≤ all.length → ∀ t, (∀ b ∈ all.take n, b.at_ ≤ t) → openB all j n = cntB j t (all.take n)
 | 0, _, _, _ => by simp [openB, cntB]
 | n + 1, hn, t, h => by
  have e : all[n]? = some (all[n]'(by omega)) := List.getElem?_eq_getElem (by omega)
  rw [List.take_add_one, e] at h ⊢
  rw [openB, openB_take all j n (by omega) t (fun b hb => h b (List.mem_append_left _ hb)), Option.toList_some, cntB_app]
  have h1 := h (all[n]'(by omega)) (List.mem_append_right _ (by simp))
  simp only [e, Option.getD_some, cntB, Int.add_zero]
  by_cases hj : (all[n]'(by omega)).lst = j
  ·rw [if_pos hj, if_pos ⟨hj, h1⟩]
  ·rw [if_neg hj, if_neg (fun h => hj h.1)]
theorem cntB_late {j t : Int} : ∀ {l : List BdD}, (∀ b ∈ l, t < b.at_) → cntB j t l = 0
 | [], _ => rfl
 | b :: r, h => by
  rw [cntB, cntB_late fun q hq => h q (List.mem_cons_of_mem _ hq), if_neg (by have := h b List.mem_cons_self; omega)]
  rfl
def sweepL (keep : Bool → Bool → Bool) (all : List BdD) (n : Nat) : List (Int × Int) :=
 runTo (all.map (·.at_)) (fun i => keep (decide (0 < openB all 0 (i + 1))) (decide (0 < openB all 1 (i + 1)))) n
theorem sweep_is {k : Int} {a b : List (Int × Int)} {all : List BdD} (hp : all.Perm (bdsL 0 a ++ bdsL 1 b)) (hs : all.Pairwise fun x y => x.at_ ≤ y.at_) : sweepL (inB k) all all.length = combL k a b := by
 have c0 : ∀ t, cntB 0 t all = cntB 0 t (bdsL 0 a) := fun t => by rw [cntB_perm hp, cntB_app, cntB_other (i := 0) (j := 1) (by decide)]; omega
 have c1 : ∀ t, cntB 1 t all = cntB 1 t (bdsL 1 b) := fun t => by rw [cntB_perm hp, cntB_app, cntB_other (i := 1) (j := 0) (by decide)]; omega
 have hA : ∀ t, decide (0 < cntB 0 t all) = hasB a t := fun t => by rw [Bool.eq_iff_iff, decide_eq_true_iff, c0, (cntB_has 0 t a).2]
 have hB : ∀ t, decide (0 < cntB 1 t all) = hasB b t := fun t => by rw [Bool.eq_iff_iff, decide_eq_true_iff, c1, (cntB_has 1 t b).2]
 have hm : ∀ (j : Nat) (l : List (Int × Int)), ∀ s ∈ l, s.1 < s.2 → (⟨s.1, j, 1⟩ : BdD) ∈ bdsL j l ∧ (⟨s.2, j, -1⟩ : BdD) ∈ bdsL j l := fun j l s hs h => by
  unfold bdsL
  constructor
  ·rw [List.mem_flatMap]; exact ⟨s, hs, by rw [if_pos h]; simp⟩
  ·rw [List.mem_flatMap]; exact ⟨s, hs, by rw [if_pos h]; simp⟩
 have hin : ∀ (s : Int × Int), s.1 < s.2 → (s ∈ a ∨ s ∈ b) → s.1 ∈ all.map (·.at_) ∧ s.2 ∈ all.map (·.at_) := fun s h hh => by
  rw [List.mem_map, List.mem_map]
  rcases hh with hh | hh
  ·exact ⟨⟨_, hp.mem_iff.2 (List.mem_append_left _ (hm 0 a s hh h).1), rfl⟩, ⟨_, hp.mem_iff.2 (List.mem_append_left _ (hm 0 a s hh h).2), rfl⟩⟩
  ·exact ⟨⟨_, hp.mem_iff.2 (List.mem_append_right _ (hm 1 b s hh h).1), rfl⟩, ⟨_, hp.mem_iff.2 (List.mem_append_right _ (hm 1 b s hh h).2), rfl⟩⟩
 have key : ∀ (j : Int) (i : Nat) (x y : Int), (all.map (·.at_))[i]? = some x → (all.map (·.at_))[i + 1]? = some y → ∀ t, x ≤ t → t < y → openB all j (i + 1) = cntB j t all := by
  intro j i x y hx hy t h1 h2
  rw [List.getElem?_map] at hx hy
  obtain ⟨p, hp', rfl⟩ := Option.map_eq_some_iff.1 hx
  obtain ⟨q, hq', rfl⟩ := Option.map_eq_some_iff.1 hy
  have hl := (List.getElem?_eq_some_iff.1 hq').1
  have hs' := hs
  rw [List.pairwise_iff_getElem] at hs'
  have hpi := (List.getElem?_eq_some_iff.1 hp').2
  have hqi := (List.getElem?_eq_some_iff.1 hq').2
  rw [openB_take all j (i + 1) (by omega) t ?_]
  ·conv => rhs; rw [← List.take_append_drop (i + 1) all]
   rw [cntB_app, cntB_late (l := all.drop (i + 1)), Int.add_zero]
   intro c hc
   obtain ⟨m, hm', rfl⟩ := List.mem_iff_getElem.1 hc
   rw [List.length_drop] at hm'
   rw [List.getElem_drop]
   rcases Nat.eq_zero_or_pos m with rfl | hm0
   ·simp only [Nat.add_zero, hqi]; exact h2
   ·have := hs' (i + 1) (i + 1 + m) hl (by omega) (by omega)
    rw [hqi] at this; omega
  ·intro c hc
   obtain ⟨m, hm', rfl⟩ := List.mem_iff_getElem.1 hc
   rw [List.length_take] at hm'
   rw [List.getElem_take]
   rcases Nat.lt_or_ge m i with h | h
   ·have := hs' m i (by omega) (by omega) h
    rw [hpi] at this; omega
   ·obtain rfl : m = i := by omega
    rw [hpi]; exact h1
 have hlen : all.length = (all.map (·.at_)).length := by simp
 have run := run_is (pts := all.map (·.at_)) (f := fun i => inB k (decide (0 < openB all 0 (i + 1))) (decide (0 < openB all 1 (i + 1)))) (g := fun t => inB k (hasB a t) (hasB b t))
  (by rw [List.pairwise_map]; exact hs)
  (fun i x y hx hy t h1 h2 => by
   (try dsimp only)
   rw [key 0 i x y hx hy t h1 h2, key 1 i x y hx hy t h1 h2, hA, hB])
  (fun t ht => by
   have no : ∀ l : List (Int × Int), (∀ s ∈ l, s.1 < s.2 → s.1 ∈ all.map (·.at_) ∧ s.2 ∈ all.map (·.at_)) → hasB l t = false := fun l hl => by
    rw [← Bool.not_eq_true, hasB_iff]
    rintro ⟨s, hs', h1, h2⟩
    have := ht _ (hl s hs' (by omega)).1
    omega
   (try dsimp only)
   rw [no a fun s h h' => hin s h' (Or.inl h), no b fun s h h' => hin s h' (Or.inr h), inB_none])
  (fun t ht => by
   have no : ∀ l : List (Int × Int), (∀ s ∈ l, s.1 < s.2 → s.1 ∈ all.map (·.at_) ∧ s.2 ∈ all.map (·.at_)) → hasB l t = false := fun l hl => by
    rw [← Bool.not_eq_true, hasB_iff]
    rintro ⟨s, hs', h1, h2⟩
    have := ht _ (hl s hs' (by omega)).2
    omega
   (try dsimp only)
   rw [no a fun s h h' => hin s h' (Or.inl h), no b fun s h h' => hin s h' (Or.inr h), inB_none])
 unfold sweepL
 rw [hlen]
 exact comb_eq run.1 run.2.1
end Go.Proofs.YtgolicoalldidaaGreat
namespace Go.Proofs
open Go.Shelf
end Go.Proofs
namespace Go.Proofs.YtgolicoalldidaaGreat
open Go.RowKit
def bdEnc (b : BdD) : List Value := [.int .i64 b.at_, .int .i64 b.lst, .int .i64 b.by_]
def bdCells (l : List BdD) : List Value := l.flatMap bdEnc
theorem bdCells_app (a b : List BdD) : bdCells (a ++ b) = bdCells a ++ bdCells b := by simp [bdCells]
theorem bdCells_len : ∀ l : List BdD, (bdCells l).length = l.length * 3
 | [] => rfl
 | b :: r => by have := bdCells_len r; unfold bdCells at *; rw [List.flatMap_cons, List.length_append, this, List.length_cons]; simp [bdEnc]; omega
theorem bdCells_at : ∀ {l : List BdD} (i : Nat) (b : BdD), l[i]? = some b → (bdCells l)[i * 3]? = some (.int .i64 b.at_) ∧ (bdCells l)[i * 3 + 1]? = some (.int .i64 b.lst) ∧ (bdCells l)[i * 3 + 2]? = some (.int .i64 b.by_)
 | [], i, b, h => by simp at h
 | x :: r, 0, b, h => by simp at h; subst h; exact ⟨rfl, rfl, rfl⟩
 | x :: r, i + 1, b, h => by
  have := bdCells_at (l := r) i b (by simpa using h)
  have e : ∀ j, (bdCells (x :: r))[(i + 1) * 3 + j]? = (bdCells r)[i * 3 + j]? := fun j => by
   rw [show (i + 1) * 3 + j = (i * 3 + j) + 1 + 1 + 1 by omega]; rfl
  exact ⟨(e 0).trans this.1, (e 1).trans this.2.1, (e 2).trans this.2.2⟩
def BdsO (w : World) (B : Nat) (v : Value) (l : List BdD) : Prop := w.ownsRow B 212 3 v l.length (bdCells l)
theorem bd_info : (Tryz.prog.info? 212).map (fun i => (i.zero, i.size, i.bytes)) = some (some (.agg #[.int .i64 0, .int .i64 0, .int .i64 0]), 3, 24) := by kernel_rfl
theorem BdsO.nil (w : World) (B : Nat) : BdsO w B (.slice none 0 0) [] := World.ownsRow_nil _ _ _ _
theorem BdsO.ext {w w' : World} {B : Nat} {v : Value} {l : List BdD} (h : BdsO w B v l) (k : Ext w w') : BdsO w' B v l := owns_ext h k
theorem flat_bd (l : List BdD) : Sort.flatK bdEnc 3 l.toArray = (bdCells l).toArray := by
 refine Sort.ext_get! (by simp [bdCells_len]) fun t ht => ?_
 have ht' : t < l.length * 3 := by simpa using ht
 rw [Sort.get_flatK _ _ _ _ (by simpa using ht')]
 have hi : t / 3 < l.length := by omega
 obtain ⟨h0, h1, h2⟩ := bdCells_at (t / 3) l[t / 3] (List.getElem?_eq_getElem hi)
 have e : l.toArray[t / 3]! = l[t / 3] := by simp [hi]
 rw [e]
 have hm : t % 3 = 0 ∨ t % 3 = 1 ∨ t % 3 = 2 := by omega
 have g : ∀ v, (bdCells l)[t]? = some v → (bdCells l).toArray[t]! = v := fun v hv => by simp [hv]
 rcases hm with h | h | h
 ·rw [show t / 3 * 3 = t by omega] at h0; rw [g _ h0, h]; rfl
 ·rw [show t / 3 * 3 + 1 = t by omega] at h1; rw [g _ h1, h]; rfl
 ·rw [show t / 3 * 3 + 2 = t by omega] at h2; rw [g _ h2, h]; rfl
theorem holds_bd {w : World} {B g c : Nat} {l : List BdD} (h : BdsO w B (.slice (some ⟨g, 0, none⟩) l.length c) l) : Sort.HoldsK bdEnc 3 w g 0 l.toArray := by
 unfold Sort.HoldsK
 rw [flat_bd]
 intro j hj
 have hj' : j < l.length * 3 := by simpa [bdCells_len] using hj
 rw [Nat.zero_add]
 refine ⟨?_, h.frozenAt j⟩
 rw [h.cellAt j hj']
 have hl : j < (bdCells l).length := by rw [bdCells_len]; exact hj'
 simp [hl]
theorem put_heap (w : World) (g : Nat) (F : Array Value) (m : Nat) (os : Array Obj) (k : Nat) (hk : k < w.heap.size) : (Sort.grow (Sort.putRow id (Sort.ahead w m) g 0 F) os).heap[k]? =
  if k = g then (w.heap[k]?).map (Sort.onCells (Sort.putCells id 0 F)) else w.heap[k]? := by
 have hs : (Sort.putRow id (Sort.ahead w m) g 0 F).heap.size = w.heap.size := by rw [Sort.size_putRow]; rfl
 have e1 : (Sort.grow (Sort.putRow id (Sort.ahead w m) g 0 F) os).heap[k]? = (Sort.putRow id (Sort.ahead w m) g 0 F).heap[k]? := by
  show ((Sort.putRow id (Sort.ahead w m) g 0 F).heap ++ os)[k]? = _
  rw [Array.getElem?_append_left (by rw [hs]; exact hk)]
 rw [e1]
 show (w.heap.modify g (Sort.onCells (Sort.putCells id 0 F)))[k]? = _
 rw [Array.getElem?_modify]
 by_cases h : k = g
 ·subst h; simp
 ·rw [if_neg h, if_neg (Ne.symm h)]
theorem keep_put (w : World) (g : Nat) (F : Array Value) (m : Nat) (os : Array Obj) : Keep (fun k => k = g) w (Sort.grow (Sort.putRow id (Sort.ahead w m) g 0 F) os) := by
 refine ⟨rfl, rfl, rfl, ?_, fun k hk hx => ?_⟩
 ·show w.heap.size ≤ ((Sort.putRow id (Sort.ahead w m) g 0 F).heap ++ os).size
  rw [Array.size_append, Sort.size_putRow]
  exact Nat.le_add_right _ _
 ·rw [put_heap w g F m os k hk, if_neg hx]
theorem owns_put {w : World} {B size n c g : Nat} {e : TypeId} {xs : List Value} (h : w.ownsRow B e size (.slice (some ⟨g, 0, none⟩) n c) n xs) (F : Array Value) (hF : F.size = n * size) (m : Nat) (os : Array Obj) :
  (Sort.grow (Sort.putRow id (Sort.ahead w m) g 0 F) os).ownsRow B e size (.slice (some ⟨g, 0, none⟩) n c) n F.toList := by
 refine ⟨by simpa using hF, ?_⟩
 have hlt := (h.lt g rfl).2
 rcases h.2 with ⟨h', _⟩ | ⟨g', cap, cur, h', hb, hg, hn, hcap, hcs, htake⟩
 ·cases h'
 ·cases h'
  refine Or.inr ⟨g, c, Sort.putCells id 0 F cur, rfl, hb, ?_, hn, hcap, by simp [Sort.putCells, hcs], ?_⟩
  ·rw [put_heap w g F m os g hlt, if_pos rfl, hg]; rfl
  ·have hle : n * size ≤ c * size := Nat.mul_le_mul_right _ hn
   apply List.ext_getElem?
   intro j
   rw [List.getElem?_take]
   by_cases hj : j < n * size
   ·rw [if_pos hj]
    have h1 : j < cur.size := by omega
    have h2 : j < F.size := by omega
    simp [Sort.putCells, h1, h2]
   ·rw [if_neg hj, List.getElem?_eq_none (by simp; omega)]
def cmpI (x y : Int) : Int := if x < y then -1 else if y < x then 1 else 0
theorem isNaN_calls (x : Int) (w : World) : Calls Tryz.prog 123 #[.int .i64 x] w fun e w' => e = .returned (.bool false) ∧ w' = w := by
 have hx : (x != x) = false := by simp
 go_enter Tryz.func123, Tryz.ntmps123
 go_wp2
 go_ret
 exact ⟨rfl, rfl⟩
theorem compare_calls (x y : Int) (w : World) : Calls Tryz.prog 96 #[.int .i64 x, .int .i64 y] w fun e w' => e = .returned (.int .i64 (cmpI x y)) ∧ w' = w := by
 have n1 := isNaN_calls x
 have n2 := isNaN_calls y
 by_cases h1 : x < y
 ·have R : Hid (cmpI x y = -1) := by show _ = _; simp [cmpI, h1]
  go_enter Tryz.func96, Tryz.ntmps96
  go_wp2_with fail
  refine (n1 _).mono ?_
  rintro e w1 ⟨rfl, rfl⟩
  go_wp2_with fail
  refine (n2 _).mono ?_
  rintro e w2 ⟨rfl, rfl⟩
  go_wp2
  go_ret
  rw [R.out]
  exact ⟨rfl, rfl⟩
 ·by_cases h2 : y < x
  ·have R : Hid (cmpI x y = 1) := by show _ = _; simp [cmpI, h1, h2]
   go_enter Tryz.func96, Tryz.ntmps96
   go_wp2_with fail
   refine (n1 _).mono ?_
   rintro e w1 ⟨rfl, rfl⟩
   go_wp2_with fail
   refine (n2 _).mono ?_
   rintro e w2 ⟨rfl, rfl⟩
   go_wp2
   go_ret
   rw [R.out]
   exact ⟨rfl, rfl⟩
  ·have R : Hid (cmpI x y = 0) := by show _ = _; simp [cmpI, h1, h2]
   go_enter Tryz.func96, Tryz.ntmps96
   go_wp2_with fail
   refine (n1 _).mono ?_
   rintro e w1 ⟨rfl, rfl⟩
   go_wp2_with fail
   refine (n2 _).mono ?_
   rintro e w2 ⟨rfl, rfl⟩
   go_wp2
   go_ret
   rw [R.out]
   exact ⟨rfl, rfl⟩
theorem bdCmp_calls (x y : BdD) (W : World) : Calls Tryz.prog 142 #[.agg (bdEnc x).toArray, .agg (bdEnc y).toArray] W fun e w' => e = .returned (.int .i64 (cmpI x.at_ y.at_)) ∧ ∃ q os', w' = Sort.grow (W.drewN q) os' := by
 obtain ⟨xa, xl, xb⟩ := x
 obtain ⟨ya, yl, yb⟩ := y
 have hcon := fun W' => compare_calls xa ya W'
 show Calls Tryz.prog 142 #[.agg #[.int .i64 xa, .int .i64 xl, .int .i64 xb], .agg #[.int .i64 ya, .int .i64 yl, .int .i64 yb]] W _
 dsimp only
 generalize cmpI xa ya = r at hcon ⊢
 go_enter Tryz.func142, Tryz.ntmps142
 go_wp2_with fail
 refine (hcon _).mono ?_
 rintro e w1 ⟨rfl, rfl⟩
 go_wp2
 go_ret
 exact ⟨rfl, 0, _, by rw [Sort.alloc_eq_grow, Sort.alloc_eq_grow, Sort.grow_grow]; rfl⟩
theorem bd_lt (x y : BdD) : ltOf (fun x y : BdD => cmpI x.at_ y.at_) x y = decide (x.at_ < y.at_) := by
 unfold ltOf cmpI
 by_cases h1 : x.at_ < y.at_
 ·simp [h1]
 ·by_cases h2 : y.at_ < x.at_ <;> simp [h1, h2]
theorem bd_swo : Sort.SWO (ltOf fun x y : BdD => cmpI x.at_ y.at_) where
 irrefl x := by rw [bd_lt]; simp
 trans x y z h1 h2 := by rw [bd_lt] at *; simp at *; omega
 ntrans x y z h1 h2 := by rw [bd_lt] at *; simp at *; omega
def SortedB (l : List BdD) : Prop := l.Pairwise fun x y => x.at_ ≤ y.at_
theorem sorted_of {d : Array BdD} (h : Sort.SortedIn (ltOf fun x y : BdD => cmpI x.at_ y.at_) 0 d.size d) : SortedB d.toList := by
 unfold SortedB
 rw [List.pairwise_iff_getElem]
 intro i j hi hj hij
 have hi' : i < d.size := by simpa using hi
 have hj' : j < d.size := by simpa using hj
 have := h i j (Nat.zero_le _) hij hj'
 rw [bd_lt, getElem!_pos d j hj', getElem!_pos d i hi'] at this
 simp at this
 simpa using this
theorem sortBd_calls (w : World) (B : Nat) (v : Value) (l : List BdD) (h : BdsO w B v l) (hl : l.length ≤ 1000000) :
  Calls Tryz.prog 141 #[v, .func (.func 142) #[] #[]] w fun e w' =>
   e = .returned (.tuple #[]) ∧ ∃ l', l'.Perm l ∧ SortedB l' ∧ BdsO w' B v l' ∧ (l' = [] ∧ w' = w ∨ ∃ g, v.ownBlock = some g ∧ Keep (fun k => k = g) w w') := by
 cases l with
 | nil =>
  obtain ⟨A, c, rfl⟩ := owns_form h
  have hcon := AnyF.slices_SortFunc_none Tryz.sortBdYtgolicoalldidaaGreat A c (.func (.func 142) #[] #[]) w
  change Calls Tryz.prog 141 _ _ _ at hcon
  refine hcon.mono ?_
  rintro e w' ⟨rfl, rfl⟩
  exact ⟨rfl, [], List.Perm.refl _, List.Pairwise.nil, h, Or.inl ⟨rfl, rfl⟩⟩
 | cons x r =>
  obtain ⟨g, c, rfl⟩ : ∃ g c, v = .slice (some ⟨g, 0, none⟩) (x :: r).length c := by
   rcases h.2 with ⟨_, h0⟩ | ⟨g, cap, cur, rfl, _⟩
   ·simp at h0
   ·exact ⟨_, _, rfl⟩
  generalize hxl : x :: r = l at *
  have eg : ∀ args w, (callFunc 142 args).run Tryz.prog w = .ok (.enter 142 args) w := enters_of Tryz.func142 (by kernel_rfl) rfl
  have hcon := AnyQ.slices_SortFunc Tryz.sortBdYtgolicoalldidaaGreat 3 Tryz.isAgg212 Tryz.sizeOf212 bdEnc (fun _ => rfl) (fun x v hv => by simp [bdEnc] at hv; rcases hv with rfl | rfl | rfl <;> rfl) (fun x y => cmpI x.at_ y.at_) bd_swo 142 #[] g 0 c l.toArray w eg
   (fun _ _ _ _ x y => bdCmp_calls x y _) (holds_bd h) ((h.lt g rfl).2) (by simp; omega)
  change Calls Tryz.prog 141 _ _ _ at hcon
  rw [List.size_toArray] at hcon
  refine hcon.mono ?_
  rintro e w' ⟨rfl, d', n, os, hp, hs, rfl⟩
  obtain ⟨h1, _, h3⟩ := hp
  have hsz : d'.size = l.length := by simpa using h1
  rw [← hsz] at hs
  have hperm : d'.toList.Perm l := by
   have e1 : d'.extract 0 l.length = d' := by rw [← hsz]; simp
   have e2 : l.toArray.extract 0 l.length = l.toArray := by simp
   rw [e1, e2] at h3
   simpa using h3
  refine ⟨rfl, d'.toList, hperm, sorted_of hs, ?_, Or.inr ⟨g, rfl, ?_⟩⟩
  ·have ho := owns_put h (Sort.flatK bdEnc 3 d') (by rw [Sort.size_flatK, hsz]) n os
   have e : Sort.flatK bdEnc 3 d' = (bdCells d'.toList).toArray := by
    have := flat_bd d'.toList
    simpa using this
   unfold BdsO
   rw [hperm.length_eq]
   unfold sortWorldK Sort.putRowK
   rw [e] at ho ⊢
   exact ho
  ·exact keep_put w g _ n os
end Go.Proofs.YtgolicoalldidaaGreat
namespace Go.Proofs
open Go.Shelf
end Go.Proofs
namespace Go.Proofs.YtgolicoalldidaaGreat
open Go.RowKit
structure PerD where
 head : List Int
 from_ : Int
 period : Int
 cycle : List Int
instance : Inhabited PerD := ⟨⟨[], 0, 0, []⟩⟩
def PerV (w : World) (v : Value) (p : PerD) : Prop := ∃ hv cv, v = .agg #[hv, .int .i64 p.from_, .int .i64 p.period, cv] ∧ Ints w hv p.head ∧ Ints w cv p.cycle
def Pers (w : World) (v : Value) (l : List PerD) : Prop :=
 ∃ H C : Nat → Value, Sl w 4 v l.length (fun i j => if j = 0 then H i else if j = 1 then .int .i64 (l[i]?.getD default).from_ else if j = 2 then .int .i64 (l[i]?.getD default).period else C i) ∧
  ∀ i, i < l.length → Ints w (H i) (l[i]?.getD default).head ∧ Ints w (C i) (l[i]?.getD default).cycle
theorem PerV.ext {w w' : World} {v : Value} {p : PerD} (h : PerV w v p) (e : Ext w w') : PerV w' v p := let ⟨a, b, c, d, f⟩ := h; ⟨a, b, c, d.ext e, f.ext e⟩
theorem Pers.ext {w w' : World} {v : Value} {l : List PerD} (h : Pers w v l) (e : Ext w w') : Pers w' v l :=
 let ⟨S, T, h1, h2⟩ := h
 ⟨S, T, Sl.ext h1 e, fun i hi => ⟨(h2 i hi).1.ext e, (h2 i hi).2.ext e⟩⟩
def PersAt (a : Option Addr) (w : World) (l : List PerD) : Prop :=
 ∀ i, i < l.length → ∀ W, Ext w W → ∃ b off x pa pc oa oc, a = some ⟨b, off, none⟩ ∧ b < W.heap.size ∧ Hid (l.drop i = x :: l.drop (i + 1)) ∧ Hid (l[i]? = some x) ∧
  W.cell? ⟨b, off + i * 4, none⟩ = some (.slice pa x.head.length pc) ∧ W.cell? ⟨b, off + i * 4 + 1, none⟩ = some (.int .i64 x.from_) ∧ W.cell? ⟨b, off + i * 4 + 2, none⟩ = some (.int .i64 x.period) ∧ W.cell? ⟨b, off + i * 4 + 3, none⟩ = some (.slice oa x.cycle.length oc) ∧
  Ints W (.slice pa x.head.length pc) x.head ∧ Ints W (.slice oa x.cycle.length oc) x.cycle
theorem Pers.open {w : World} {v : Value} {l : List PerD} (h : Pers w v l) :
  ∃ a c, v = .slice a l.length c ∧ l.length ≤ c ∧ c ≤ 9223372036854775807 ∧ PersAt a w l := by
 obtain ⟨Pp, O, h1, h2⟩ := h
 obtain ⟨a, c, hv, hn, hc, h⟩ := Sl.open h1
 refine ⟨a, c, hv, hn, hc, fun i hi W e => ?_⟩
 obtain ⟨b, off, ha, hb, h⟩ := h i hi
 obtain ⟨x, d, ex⟩ := drop_cons l i hi
 have hp := (h2 i hi).1.ext e
 have ho := (h2 i hi).2.ext e
 simp only [ex, Option.getD_some] at hp ho
 obtain ⟨pa, pc, hP, _⟩ := Ints.open hp
 obtain ⟨oa, oc, hO, _⟩ := Ints.open ho
 refine ⟨b, off, x, pa, pc, oa, oc, ha, Nat.lt_of_lt_of_le hb e.size, d, ex, ?_, ?_, ?_, ?_, by rw [← hP]; exact hp, by rw [← hO]; exact ho⟩
 ·have := h W e 0 (by omega)
  rw [← hP]
  simpa [ex] using this
 ·have := h W e 1 (by omega)
  simpa [ex] using this
 ·have := h W e 2 (by omega)
  simpa [ex] using this
 ·have := h W e 3 (by omega)
  rw [← hO]
  simpa [ex] using this
theorem Pers.form {w : World} {v : Value} {l : List PerD} (h : Pers w v l) : ∃ a c, v = .slice a l.length c := let ⟨a, c, e, _⟩ := h.open; ⟨a, c, e⟩
theorem indexFunc_per_calls (va : Value) (l : List PerD) (g : Nat) (hg : ∀ (x : Array Value) (W : World), (callFunc g x).run Tryz.prog W = .ok (.enter g x) W) (p : PerD → Bool) (w : World) (h : Pers w va l)
  (hf : ∀ s ∈ l, ∀ W, Ext w W → ∀ v, PerV W v s → Calls Tryz.prog g #[v] W fun e w' => e = .returned (.bool (p s)) ∧ Ext W w') :
  Calls Tryz.prog 129 #[va, .func (.func g) #[] #[]] w fun e w' => e = .returned (.int .i64 (findI p l)) ∧ Ext w w' := by
 obtain ⟨a, c, rfl, hn, hc, hat⟩ := h.open
 clear h
 have hf' := Lib.hid hf
 clear hf
 go_enter Tryz.func129, Tryz.ntmps129
 go_wp2_with fail
 go_loopw [8] (fun vi wr => ∃ i : Nat, i ≤ l.length ∧ vi = .int .i64 i ∧ Ext w wr ∧ Hid (FindAt p l i)) (fun vi _ => l.length - (intOf vi).toNat)
 case atStart => exact ⟨0, by omega, rfl, Ext.refl _, FindAt.zero _ _⟩
 case round =>
  obtain ⟨i, hi, rfl, hx, hF⟩ := hrel
  by_cases h1 : i < l.length
  ·obtain ⟨b1, o1, o, ha, hc1, ca, cc, rfl, hb1, dx, ex, g1, g2, g3, g4, gh, gc⟩ := hat i h1 wr hx
   have hm : o ∈ l := List.mem_of_getElem? ex.out
   have hcall := Lib.hid (hf'.out o hm wr hx _ ⟨_, _, rfl, gh, gc⟩)
   clear gh gc
   cases hp : p o with
   | true =>
    have R := Lib.hid (hF.out.hit ex.out hp)
    have hp' := Lib.hid hp
    clear hp
    go_wp2_with fail
    refine hcall.out.mono ?_
    rintro e w1 ⟨rfl, hx1⟩
    rw [hp'.out]
    go_wp2
    go_ret
    rw [R.out]
    exact ⟨rfl, hx.trans hx1⟩
   | false =>
    have R := Lib.hid (hF.out.miss ex.out hp)
    have hp' := Lib.hid hp
    clear hp
    go_wp2_with fail
    refine hcall.out.mono ?_
    rintro e w1 ⟨rfl, hx1⟩
    rw [hp'.out]
    go_wp2
    go_roundw
    case rel => exact ⟨i + 1, by omega, by go_num, hx.trans hx1, R⟩
    case measure => simp [intOf]; omega
  ·have R := Lib.hid (hF.out.none (by omega))
   go_wp2
   go_ret
   rw [R.out]
   exact ⟨rfl, hx⟩
theorem containsFunc_per_calls (va : Value) (l : List PerD) (g : Nat) (hg : ∀ (x : Array Value) (W : World), (callFunc g x).run Tryz.prog W = .ok (.enter g x) W) (p : PerD → Bool) (w : World) (h : Pers w va l)
  (hf : ∀ s ∈ l, ∀ W, Ext w W → ∀ v, PerV W v s → Calls Tryz.prog g #[v] W fun e w' => e = .returned (.bool (p s)) ∧ Ext W w') :
  Calls Tryz.prog 107 #[va, .func (.func g) #[] #[]] w fun e w' => e = .returned (.bool (l.any p)) ∧ Ext w w' := by
 have hc := Lib.hid (indexFunc_per_calls va l g hg p w h hf)
 have R := Lib.hid (findI_ge p l)
 clear hf h
 go_enter Tryz.func107, Tryz.ntmps107
 go_wp2_with fail
 refine hc.out.mono ?_
 rintro e w1 ⟨rfl, hx1⟩
 go_wp2
 go_ret
 rw [R.out]
 exact ⟨rfl, hx1⟩
def risingP : Int → Int → List Int → Bool
 | _, _, [] => true
 | last, lim, n :: r => if n ≤ last ∨ lim ≤ n then false else risingP n lim r
theorem rising_calls (v : Value) (l : List Int) (lim : Int) (w : World) (h : Ints w v l) :
  Calls Tryz.prog 130 #[v, .int .i64 lim] w fun e w' => e = .returned (.bool (risingP (-1) lim l)) ∧ Ext w w' := by
 obtain ⟨a, c, rfl, hn, hc, hat⟩ := h.open
 have hat' := Lib.hid hat
 clear h hat
 obtain ⟨R, hR⟩ : ∃ R, Hid (risingP (-1) lim l = R) := ⟨_, rfl⟩
 rw [hR.out]
 go_enter Tryz.func130, Tryz.ntmps130
 go_wp2_with fail
 go_loopw [5, 7, 10] (fun vl _ vi wr => ∃ (i : Nat) (last : Int), i ≤ l.length ∧ vi = .int .i64 i ∧ vl = .int .i64 last ∧ Hid (Ext w wr) ∧ Hid (R = risingP last lim (l.drop i))) (fun _ _ vi _ => l.length - (intOf vi).toNat)
 case atStart => exact ⟨0, -1, by omega, rfl, rfl, Lib.hid (Ext.refl _), Lib.hid hR.out.symm⟩
 case round =>
  clear hR
  obtain ⟨i, last, hi, rfl, rfl, hx, hF⟩ := hrel
  by_cases h1 : i < l.length
  ·obtain ⟨b1, o1, x, rfl, hb1, dx, ex, g0⟩ := hat'.out i h1 wr hx.out
   have hF2 : Hid (R = if x ≤ last ∨ lim ≤ x then false else risingP x lim (l.drop (i + 1))) := Lib.hid (by rw [hF.out, dx.out]; rfl)
   clear hF dx ex
   by_cases q1 : x ≤ last
   ·have d1 : decide (x ≤ last) = true := decide_eq_true q1
    have Rf : Hid (R = false) := Lib.hid (by rw [hF2.out, if_pos (Or.inl q1)])
    clear hF2 q1
    go_wp2
    go_ret
    rw [Rf.out]
    exact ⟨rfl, hx.out⟩
   ·have d1 : decide (x ≤ last) = false := decide_eq_false q1
    by_cases q2 : lim ≤ x
    ·have d2 : decide (lim ≤ x) = true := decide_eq_true q2
     have Rf : Hid (R = false) := Lib.hid (by rw [hF2.out, if_pos (Or.inr q2)])
     clear hF2 q1 q2
     go_wp2
     go_ret
     rw [Rf.out]
     exact ⟨rfl, hx.out⟩
    ·have d2 : decide (lim ≤ x) = false := decide_eq_false q2
     have R2 : Hid (R = risingP x lim (l.drop (i + 1))) := Lib.hid (by rw [hF2.out, if_neg (fun h => h.elim q1 q2)])
     clear hF2 q1 q2
     go_wp2
     go_roundw
     case rel => exact ⟨i + 1, x, by omega, by go_num, rfl, hx, R2⟩
     case measure => simp [intOf]; omega
  ·have Rt : Hid (R = true) := Lib.hid (by rw [hF.out, List.drop_of_length_le (by omega)]; rfl)
   clear hF
   go_wp2
   go_ret
   rw [Rt.out]
   exact ⟨rfl, hx.out⟩
def PerOk (p : PerD) : Prop := p.head = [] ∧ 0 ≤ p.from_ ∧ p.from_ ≤ 1000 ∧ 1 ≤ p.period ∧ p.period ≤ 1000 ∧ p.cycle ≠ [] ∧ p.cycle.length ≤ 1000 ∧ risingP (-1) p.period p.cycle = true
theorem perValid_calls (v : Value) (p : PerD) (w : World) (h : PerV w v p) (hok : PerOk p) :
  Calls Tryz.prog 109 #[v] w fun e w' => e = .returned (.bool true) ∧ Ext w w' := by
 obtain ⟨hv, cv, rfl, hh, hc⟩ := h
 obtain ⟨e0, f0, f1, q0, q1, hne, hcl, hri⟩ := hok
 obtain ⟨f, fe⟩ : ∃ f, p.from_ = f := ⟨_, rfl⟩
 obtain ⟨q, qe⟩ : ∃ q, p.period = q := ⟨_, rfl⟩
 obtain ⟨cs, ce⟩ : ∃ cs, p.cycle = cs := ⟨_, rfl⟩
 rw [e0] at hh
 rw [ce] at hc hcl
 rw [qe, ce] at hri
 rw [fe] at f0 f1 ⊢
 rw [qe] at q0 q1 ⊢
 clear e0 fe qe ce hne
 obtain ⟨ha, hcp, rfl⟩ := hh.form
 obtain ⟨ca, cc, rfl⟩ := hc.form
 have hcl1 : Hid (∀ W, Ext w W → Calls Tryz.prog 130 #[.slice ha 0 hcp, .int .i64 f] W fun e w' => e = .returned (.bool true) ∧ Ext W w') := Lib.hid fun W hW => rising_calls _ [] f W (hh.ext hW)
 have hcl2 : Hid (∀ W, Ext w W → Calls Tryz.prog 130 #[.slice ca cs.length cc, .int .i64 q] W fun e w' => e = .returned (.bool true) ∧ Ext W w') := Lib.hid fun W hW => hri ▸ rising_calls _ cs q W (hc.ext hW)
 have d1 : decide (0 ≤ f) = true := decide_eq_true f0
 have d2 : decide (f ≤ 1099511627776) = true := decide_eq_true (by omega)
 have d3 : decide (1 ≤ q) = true := decide_eq_true q0
 have d4 : decide (q ≤ 1099511627776) = true := decide_eq_true (by omega)
 clear hri hh hc
 go_enter Tryz.func109, Tryz.ntmps109
 go_wp2_with fail
 refine (hcl1.out _ (by with_reducible repeat' (first | exact Ext.refl _ | assumption | refine Ext.drewN ?_ _ | refine Ext.drew ?_ | refine Ext.alloc ?_ _ | refine Ext.trans ?_ (by with_reducible assumption)))).mono ?_
 rintro e w1 ⟨rfl, hx1⟩
 have hB : Hid (Blk w1 w.heap.size 131 #[.slice ha 0 hcp, .int .i64 f, .int .i64 q, .slice ca cs.length cc]) := Lib.hid ((Keep.of_ext (X := fun _ => False) hx1).blk (blk_new' rfl rfl) id)
 have hE := Lib.hid (show Ext w w1 from Ext.trans (by exact (by with_reducible repeat' (first | exact Ext.refl _ | assumption | refine Ext.drewN ?_ _ | refine Ext.drew ?_ | refine Ext.alloc ?_ _ | refine Ext.trans ?_ (by with_reducible assumption)))) hx1)
 have c2 : w1.cell? ⟨w.heap.size, 2, none⟩ = some (.int .i64 q) := hB.out.cell 2
 have c3 : w1.cell? ⟨w.heap.size, 3, none⟩ = some (.slice ca cs.length cc) := hB.out.cell 3
 have l0 := hB.out.lt
 clear hx1 hcl1
 go_wp2_with fail
 refine (hcl2.out _ hE.out).mono ?_
 rintro e w2 ⟨rfl, hx2⟩
 have hE2 := Lib.hid (hE.out.trans hx2)
 clear hx2 c2 c3 l0
 go_wp2
 go_ret
 exact ⟨rfl, hE2.out⟩
def Terms (w : World) (v : Value) (l : List (List PerD)) : Prop :=
 ∃ R : Nat → Value, Sl w 1 v l.length (fun i _ => R i) ∧ ∀ i, i < l.length → Pers w (R i) (l[i]?.getD default)
theorem Terms.ext {w w' : World} {v : Value} {l : List (List PerD)} (h : Terms w v l) (e : Ext w w') : Terms w' v l :=
 let ⟨S, h1, h2⟩ := h
 ⟨S, Sl.ext h1 e, fun i hi => (h2 i hi).ext e⟩
def TermsAt (a : Option Addr) (w : World) (l : List (List PerD)) : Prop :=
 ∀ i, i < l.length → ∀ W, Ext w W → ∃ b off x pa pc, a = some ⟨b, off, none⟩ ∧ b < W.heap.size ∧ Hid (l[i]? = some x) ∧ W.cell? ⟨b, off + i, none⟩ = some (.slice pa x.length pc) ∧ Pers W (.slice pa x.length pc) x
theorem Terms.open {w : World} {v : Value} {l : List (List PerD)} (h : Terms w v l) :
  ∃ a c, v = .slice a l.length c ∧ l.length ≤ c ∧ c ≤ 9223372036854775807 ∧ TermsAt a w l := by
 obtain ⟨R, h1, h2⟩ := h
 obtain ⟨a, c, hv, hn, hc, h⟩ := Sl.open h1
 refine ⟨a, c, hv, hn, hc, fun i hi W e => ?_⟩
 obtain ⟨b, off, ha, hb, h⟩ := h i hi
 obtain ⟨x, d, ex⟩ := drop_cons l i hi
 have hp := (h2 i hi).ext e
 simp only [ex, Option.getD_some] at hp
 obtain ⟨pa, pc, hP, _⟩ := Pers.open hp
 refine ⟨b, off, x, pa, pc, ha, Nat.lt_of_lt_of_le hb e.size, ex, ?_, by rw [← hP]; exact hp⟩
 have := h W e 0 (by omega)
 rw [← hP]
 simpa [ex] using this
theorem mixedValid1_calls (v : Value) (p : PerD) (w : World) (h : PerV w v p) (hok : PerOk p) :
  Calls Tryz.prog 108 #[v] w fun e w' => e = .returned (.bool false) ∧ Ext w w' := by
 have hc := Lib.hid fun (W : World) (hW : Ext w W) => perValid_calls v p W (h.ext hW) hok
 obtain ⟨hv, cv, rfl, _⟩ := h
 clear hok
 go_enter Tryz.func108, Tryz.ntmps108
 go_wp2_with fail
 refine (hc.out _ (by with_reducible repeat' (first | exact Ext.refl _ | assumption | refine Ext.drewN ?_ _ | refine Ext.drew ?_ | refine Ext.alloc ?_ _ | refine Ext.trans ?_ (by with_reducible assumption)))).mono ?_
 rintro e w1 ⟨rfl, hx1⟩
 have hE := Lib.hid (show Ext w w1 from Ext.trans (by exact (by with_reducible repeat' (first | exact Ext.refl _ | assumption | refine Ext.drewN ?_ _ | refine Ext.drew ?_ | refine Ext.alloc ?_ _ | refine Ext.trans ?_ (by with_reducible assumption)))) hx1)
 clear hx1
 go_wp2
 go_ret
 exact ⟨rfl, hE.out⟩
theorem mixedValid_calls (v : Value) (p : PerD) (w : World) (h : Terms w v [[p]]) (hok : PerOk p) :
  Calls Tryz.prog 88 #[.agg #[v]] w fun e w' => e = .returned (.bool true) ∧ Ext w w' := by
 have hT := Lib.hid h
 obtain ⟨a, c, rfl, hn, hc, hat⟩ := h.open
 have hat' := Lib.hid hat
 clear h hat
 have hg : ∀ (y : Array Value) (W : World), (callFunc 108 y).run Tryz.prog W = .ok (.enter 108 y) W := fun _ _ => by kernel_rfl
 have hcf : Hid (∀ (W : World) (pa : Option Addr) (pc : Nat), Pers W (.slice pa 1 pc) [p] → Calls Tryz.prog 107 #[.slice pa 1 pc, .func (.func 108) #[] #[]] W fun e w' => e = .returned (.bool false) ∧ Ext W w') := Lib.hid fun W pa pc hP => by
  have := containsFunc_per_calls (.slice pa 1 pc) [p] 108 hg (fun _ => false) W hP (fun s hs W' hW' v hv => by
   obtain rfl : s = p := by simpa using hs
   exact mixedValid1_calls v s W' hv hok)
  simpa using this
 clear hok hg
 go_enter Tryz.func88, Tryz.ntmps88
 go_wp2_with fail
 go_loopw [4, 12] (fun _ vi wr => ∃ i : Nat, i ≤ 1 ∧ vi = .int .i64 i ∧ Hid (Ext w wr)) (fun _ vi _ => 1 - (intOf vi).toNat)
 case atStart => exact ⟨0, by omega, rfl, Lib.hid (by exact (by with_reducible repeat' (first | exact Ext.refl _ | assumption | refine Ext.drewN ?_ _ | refine Ext.drew ?_ | refine Ext.alloc ?_ _ | refine Ext.trans ?_ (by with_reducible assumption))))⟩
 case round =>
  obtain ⟨i, hi, rfl, hx⟩ := hrel
  by_cases h1 : i < 1
  ·obtain ⟨b1, o1, x, pa, pc, rfl, hb1, ex, g0, gp⟩ := hat'.out i (by simpa using h1) wr hx.out
   obtain rfl : i = 0 := by omega
   obtain rfl : [p] = x := by simpa using ex.out
   have hP := Lib.hid gp
   clear gp ex h1
   simp only [List.length_singleton, Nat.add_zero] at g0 hP
   go_wp2_with fail
   refine (hcf.out wr pa pc hP.out).mono ?_
   rintro e w1 ⟨rfl, hx1⟩
   have hE := Lib.hid (hx.out.trans hx1)
   clear hx1
   go_wp2
   go_roundw
   case rel => first | exact ⟨1, by omega, by go_num, hE⟩ | ((repeat apply Exists.intro); exact ⟨⟨1, by omega, by go_num, hE⟩, rfl⟩)
   case measure => simp [intOf]
  ·go_wp2
   go_ret
   exact ⟨rfl, hx.out⟩
theorem floorDiv_calls (x : Int) (w : World) (h0 : -9000000000000000000 ≤ x) (h1 : x ≤ 9000000000000000000) :
  Calls Tryz.prog 110 #[.int .i64 x, .int .i64 1440] w fun e w' => e = .returned (.tuple #[.int .i64 (x / 1440), .int .i64 0]) ∧ Ext w w' := by
 have e := Int.mul_tdiv_add_tmod x 1440
 have r0 : x.tmod 1440 < 1440 := Int.tmod_lt_of_pos x (by decide)
 have r1 : -1440 < x.tmod 1440 := Int.lt_tmod_of_pos x (by decide)
 obtain ⟨q, hq⟩ : ∃ q, x.tdiv 1440 = q := ⟨_, rfl⟩
 obtain ⟨r, hr⟩ : ∃ r, x.tmod 1440 = r := ⟨_, rfl⟩
 rw [hq, hr] at e
 rw [hr] at r0 r1
 have hqb : -9000000000000000 ≤ q ∧ q ≤ 9000000000000000 := by omega
 obtain ⟨hq3, hq4⟩ := hqb
 have hw : wrap64 q = q := by unfold wrap64; omega
 by_cases h : r < 0
 ·have d1 : decide (r < 0) = true := decide_eq_true h
  have hR : Hid (x / 1440 = q - 1) := Lib.hid (by omega)
  have hw2 : wrap64 (q - 1) = q - 1 := by unfold wrap64; omega
  clear e r0 r1 h h0 h1
  go_enter Tryz.func110, Tryz.ntmps110
  go_wp2
  go_ret2
  rw [hR.out]
  exact ⟨rfl, (by with_reducible repeat' (first | exact Ext.refl _ | assumption | refine Ext.drewN ?_ _ | refine Ext.drew ?_ | refine Ext.alloc ?_ _ | refine Ext.trans ?_ (by with_reducible assumption)))⟩
 ·have d1 : decide (r < 0) = false := decide_eq_false h
  have hR : Hid (x / 1440 = q) := Lib.hid (by omega)
  clear e r0 r1 h h0 h1
  go_enter Tryz.func110, Tryz.ntmps110
  go_wp2
  go_ret2
  rw [hR.out]
  exact ⟨rfl, (by with_reducible repeat' (first | exact Ext.refl _ | assumption | refine Ext.drewN ?_ _ | refine Ext.drew ?_ | refine Ext.alloc ?_ _ | refine Ext.trans ?_ (by with_reducible assumption)))⟩
theorem floor_calls (x : Int) (w : World) (h0 : -9000000000000000000 ≤ x) (h1 : x ≤ 9000000000000000000) :
  Calls Tryz.prog 90 #[.int .i64 x] w fun e w' => e = .returned (.int .i64 (x / 1440)) ∧ Ext w w' := by
 have hc := Lib.hid fun (W : World) => floorDiv_calls x W h0 h1
 obtain ⟨y, hy⟩ : ∃ y, Hid (x / 1440 = y) := ⟨_, rfl⟩
 rw [hy.out] at hc ⊢
 clear hy h0 h1
 go_enter Tryz.func90, Tryz.ntmps90
 go_wp2_with fail
 refine (hc.out _).mono ?_
 rintro e w1 ⟨rfl, hx1⟩
 have hE := Lib.hid (show Ext w w1 from Ext.trans (by exact (by with_reducible repeat' (first | exact Ext.refl _ | assumption | refine Ext.drewN ?_ _ | refine Ext.drew ?_ | refine Ext.alloc ?_ _ | refine Ext.trans ?_ (by with_reducible assumption)))) hx1)
 clear hx1
 go_wp2
 go_ret
 exact ⟨rfl, hE.out⟩
end Go.Proofs.YtgolicoalldidaaGreat
namespace Go.Proofs
open Go.Shelf
end Go.Proofs
namespace Go.Proofs.YtgolicoalldidaaGreat
open Go.RowKit Go.Shelf
theorem mul64_calls (x y : Nat) (hx : x ≤ 1000000) (hy : y ≤ 1000000) (w : World) :
  Calls Tryz.prog 155 #[.int .u64 (x : Int), .int .u64 (y : Int)] w fun e w' => e = .returned (.tuple #[.int .u64 0, .int .u64 ((x * y : Nat) : Int)]) ∧ Ext w w' := by
 have hm : x * y ≤ 1000000 * 1000000 := Nat.mul_le_mul hx hy
 refine (Any.bits_Mul64 Tryz.laysMulYtgolicoalldidaaGreat x y (by omega) (by omega) w).mono ?_
 rintro e w' ⟨rfl, rfl⟩
 rw [show x * y / 18446744073709551616 = 0 by omega, show x * y % 18446744073709551616 = x * y by omega]
 exact ⟨rfl, Ext.refl _⟩
theorem magnitude_calls (x : Nat) (hx : x ≤ 1000000) (w : World) :
  Calls Tryz.prog 154 #[.int .i64 (x : Int)] w fun e w' => e = .returned (.int .u64 (x : Int)) ∧ Ext w w' := by
 have d1 : decide ((x : Int) < 0) = false := decide_eq_false (by omega)
 have hw : IntKind.u64.wrap (x : Int) = (x : Int) := by rw [IntKind.wrap_u64]; omega
 go_enter Tryz.func154, Tryz.ntmps154
 go_wp2
 go_ret
 first
 | exact ⟨rfl, Ext.refl _⟩
 | (rw [hw]; exact ⟨rfl, Ext.refl _⟩)
theorem gcd1_calls (q : Nat) (hq : q ≤ 1000000) (w : World) :
  Calls Tryz.prog 146 #[.int .i64 1, .int .i64 (q : Int)] w fun e w' => e = .returned (.int .i64 1) ∧ Ext w w' := by
 have hm1 := Lib.hid (magnitude_calls 1 (by omega))
 have hmq := Lib.hid (magnitude_calls q hq)
 go_enter Tryz.func146, Tryz.ntmps146
 go_wp2_with fail
 refine (hm1.out _).mono ?_
 rintro e w1 ⟨rfl, hx1⟩
 have hx1' := Lib.hid hx1
 clear hx1
 go_wp2_with fail
 refine (hmq.out _).mono ?_
 rintro e w2 ⟨rfl, hx2⟩
 have hx2' := Lib.hid (hx1'.out.trans hx2)
 clear hx2 hx1' hm1 hmq
 go_wp2_with fail
 go_loopw [5, 6] (fun vx vy wr => ∃ x y : Nat, vx = .int .u64 (x : Int) ∧ vy = .int .u64 (y : Int) ∧ x ≤ 1000000 ∧ y ≤ 1000000 ∧ Hid (Nat.gcd x y = 1) ∧ Hid (Ext w wr)) (fun _ vy _ => (intOf vy).toNat)
 case atStart => exact ⟨1, q, by first | rfl | simp, rfl, by omega, hq, Lib.hid (Nat.gcd_one_left q), hx2'⟩
 case round =>
  clear hx2'
  obtain ⟨x, y, rfl, rfl, hx, hy, hg, hE⟩ := hrel
  by_cases y0 : y = 0
  ·have x1 : x = 1 := by have := hg.out; rw [y0, Nat.gcd_zero_right] at this; exact this
   subst y0 x1
   clear hg
   go_wp2
   go_ret
   exact ⟨rfl, hE.out⟩
  ·have d1 : ((y : Int) != 0) = true := by simp [y0]
   obtain ⟨r, hr⟩ : ∃ r, Hid (x % y = r) := ⟨_, rfl⟩
   have hrl : r < y := by rw [← hr.out]; exact Nat.mod_lt _ (by omega)
   have hrem : (x : Int).tmod (y : Int) = (r : Int) := by rw [← hr.out]; rfl
   have hg2 : Hid (Nat.gcd y r = 1) := Lib.hid (by rw [← hr.out, Nat.gcd_comm, ← Nat.gcd_rec, Nat.gcd_comm]; exact hg.out)
   clear hg hr
   go_upto_region 3 with (fail)
   refine wp_region_after (by kernel_rfl) (by kernel_rfl) ?_
   repeat (go_big_quiet_step (fail))
   refine wpQuiet_nil ?_
   rintro _ ⟨u, rfl⟩
   have hu := Lib.hid (hE.out.trans u.ext)
   generalize u.world = V at hu ⊢
   go_wp2
   go_roundw
   case rel => first | exact ⟨y, r, rfl, rfl, hy, by omega, hg2, hu⟩ | ((repeat apply Exists.intro); exact ⟨⟨y, r, rfl, rfl, hy, by omega, hg2, hu⟩, rfl⟩)
   case measure => simp [intOf]; omega
theorem inverse1_calls (n : Nat) (h2 : 2 ≤ n) (hn : n ≤ 1000000) (w : World) :
  Calls Tryz.prog 156 #[.int .i64 1, .int .i64 (n : Int)] w fun e w' => e = .returned (.int .i64 1) ∧ Ext w w' := by
 have n0 : ((n : Int) == 0) = false := by rw [beq_eq_false_iff_ne]; omega
 have m1 : (1 : Int).tmod (n : Int) = 1 := Int.tmod_eq_of_lt (by omega) (by omega)
 have m2 : (1 + (n : Int)).tmod (n : Int) = 1 := by
  rw [Int.tmod_eq_emod_of_nonneg (by omega), Int.add_emod_right, Int.emod_eq_of_lt (by omega) (by omega)]
 have w1 : wrap64 (1 + (n : Int)) = 1 + (n : Int) := by unfold wrap64; omega
 go_enter Tryz.func156, Tryz.ntmps156
 go_wp2_with fail
 go_loopw [5, 6, 7, 8, 9] (fun vx vy vu vv _ wr => vx = .int .i64 1 ∧ vy = .int .i64 (n : Int) ∧ vu = .int .i64 1 ∧ vv = .int .i64 0 ∧ Hid (Ext w wr)) (fun _ _ _ _ _ _ => 0)
 case atStart => exact ⟨rfl, rfl, rfl, rfl, Lib.hid (by exact (by with_reducible repeat' (first | exact Ext.refl _ | assumption | refine Ext.drewN ?_ _ | refine Ext.drew ?_ | refine Ext.alloc ?_ _ | refine Ext.trans ?_ (by with_reducible assumption))))⟩
 case round =>
  obtain ⟨rfl, rfl, rfl, rfl, hE⟩ := hrel
  go_wp2
  go_ret
  exact ⟨rfl, hE.out⟩
theorem div64_calls (x y : Nat) (hx : x ≤ 1000000) (hy : 1 ≤ y) (hy2 : y ≤ 1000000) (w : World) :
  Calls Tryz.prog 157 #[.int .u64 0, .int .u64 (x : Int), .int .u64 (y : Int)] w fun e w' => e = .returned (.tuple #[.int .u64 ((x / y : Nat) : Int), .int .u64 ((x % y : Nat) : Int)]) ∧ Ext w w' := by
 have n0 : ((y : Int) == 0) = false := by rw [beq_eq_false_iff_ne]; omega
 have d1 : decide ((y : Int) ≤ 0) = false := decide_eq_false (by omega)
 have hq : (x : Int).tdiv (y : Int) = ((x / y : Nat) : Int) := rfl
 have hr : (x : Int).tmod (y : Int) = ((x % y : Nat) : Int) := rfl
 obtain ⟨q, hqd⟩ : ∃ q, x / y = q := ⟨_, rfl⟩
 obtain ⟨r, hrd⟩ : ∃ r, x % y = r := ⟨_, rfl⟩
 rw [hqd] at hq ⊢
 rw [hrd] at hr ⊢
 have hqb : q ≤ 1000000 := by rw [← hqd]; exact Nat.le_trans (Nat.div_le_self _ _) hx
 have hw : IntKind.u64.wrap (q : Int) = (q : Int) := by rw [IntKind.wrap_u64]; omega
 clear hqd hrd
 go_enter Tryz.func157, Tryz.ntmps157
 go_upto_region 6 with (fail)
 refine wp_region_after (by kernel_rfl) (by kernel_rfl) ?_
 repeat (go_big_quiet_step (fail))
 refine wpQuiet_nil ?_
 rintro _ ⟨u, rfl⟩
 have hu := Lib.hid u.ext
 generalize u.world = V at hu ⊢
 go_wp2
 go_ret2
 exact ⟨rfl, hu.out⟩
end Go.Proofs.YtgolicoalldidaaGreat
namespace Go.Proofs.YtgolicoalldidaaGreat
open Go.RowKit Go.Shelf
def meetD (r P : Nat) : Nat × Nat := if P = 1 then (0, 1) else (r, P)
theorem classMeet_results {tmps : Array Value} {w : World} {g : Nat} {a b : Int} (hp : tmps.getD 6 undef = .pointer (some ⟨g, 0, none⟩)) (hb : Blk w g 231 #[.int .i64 a, .int .i64 b]) :
  (results Tryz.f149 tmps).run Tryz.prog w = .ok (.tuple #[.agg #[.int .i64 a, .int .i64 b], tmps.getD 7 undef]) w := by
 have hp' : tmps[6]?.getD undef = .pointer (some ⟨g, 0, none⟩) := by simpa using hp
 rw [results_cell_tmp Tryz.results149]
 simp [hp', asAddr, run_loadVar_row w g 231 231 #[.int .i64 a, .int .i64 b] (0, 0) _ hb Tryz.underlying231 rfl (by kernel_rfl), Result.andThen]
set_option maxRecDepth 100000 in
theorem classMeet_calls (r P : Nat) (hP : 1 ≤ P) (hP2 : P ≤ 1000) (hr : r < P) (w : World) :
  Calls Tryz.prog 149 #[.agg #[.int .i64 0, .int .i64 1], .int .i64 (r : Int), .int .i64 (P : Int)] w fun e w' => e = .returned (.tuple #[.agg #[.int .i64 ((meetD r P).1 : Int), .int .i64 ((meetD r P).2 : Int)], .bool true]) ∧ Ext w w' := by
 have hg := Lib.hid (gcd1_calls P (by omega))
 by_cases h1 : P = 1
 ·obtain rfl : r = 0 := by omega
  subst h1
  clear hP hP2 hr
  go_enter Tryz.func149, Tryz.ntmps149
  go_wp2_with fail
  refine (hg.out _).mono ?_
  rintro e w1 ⟨rfl, hx1⟩
  have k1 := Keep.of_ext (X := fun _ => False) hx1
  have hC : Hid (Blk w1 w.heap.size 231 #[.int .i64 0, .int .i64 1]) := Lib.hid (k1.blk (Blk.alloc (blk_new' rfl rfl) _) id)
  have hR : Hid (Blk w1 (w.heap.size + 1) 231 #[.int .i64 0, .int .i64 0]) := Lib.hid (k1.blk (blk_new' (by simp) rfl) id)
  have hE := Lib.hid (show Ext w w1 from Ext.trans (by exact (by with_reducible repeat' (first | exact Ext.refl _ | assumption | refine Ext.drewN ?_ _ | refine Ext.drew ?_ | refine Ext.alloc ?_ _ | refine Ext.trans ?_ (by with_reducible assumption)))) hx1)
  have c0 : w1.cell? ⟨w.heap.size, 0, none⟩ = some (.int .i64 0) := hC.out.cell 0
  have c1 : w1.cell? ⟨w.heap.size, 1, none⟩ = some (.int .i64 1) := hC.out.cell 1
  have l0 := hC.out.lt
  have r0 : w1.cell? ⟨w.heap.size + 1, 0, none⟩ = some (.int .i64 0) := hR.out.cell 0
  have r1 : w1.cell? ⟨w.heap.size + 1, 1, none⟩ = some (.int .i64 0) := hR.out.cell 1
  have f0 := hR.out.frozen 0
  have f1 := hR.out.frozen 1
  have l1 := hR.out.lt
  clear k1 hx1 hg
  go_wp2
  refine bodyPost_ret (classMeet_results rfl ((hR.out.set_ 0 (.int .i64 0)).set_ 1 (.int .i64 1))) rfl ?_
  exact ⟨rfl, ((hE.out.setCell (p := ⟨w.heap.size + 1, 0, none⟩) (by show w.heap.size ≤ w.heap.size + 1; omega) _).setCell (p := ⟨w.heap.size + 1, 1, none⟩) (by show w.heap.size ≤ w.heap.size + 1; omega) _)⟩
 ·have hi := Lib.hid (inverse1_calls P (by omega) (by omega))
  have hm1 := Lib.hid (mul64_calls r 1 (by omega) (by omega))
  have hd := Lib.hid (div64_calls r P (by omega) hP (by omega))
  have hm2 := Lib.hid (mul64_calls 1 P (by omega) (by omega))
  rw [Nat.mul_one] at hm1
  rw [Nat.one_mul] at hm2
  rw [Nat.div_eq_of_lt hr, Nat.mod_eq_of_lt hr] at hd
  have hmd : Hid (meetD r P = (r, P)) := Lib.hid (if_neg h1)
  rw [hmd.out]
  have t1 : (r : Int).tmod (P : Int) = (r : Int) := Int.tmod_eq_of_lt (by omega) (by omega)
  have t2 : ((r : Int) + (P : Int)).tmod (P : Int) = (r : Int) := by
   rw [Int.tmod_eq_emod_of_nonneg (by omega), Int.add_emod_right, Int.emod_eq_of_lt (by omega) (by omega)]
  have n0 : ((P : Int) == 0) = false := by rw [beq_eq_false_iff_ne]; omega
  have n1 : ((P : Int) == 1) = false := by rw [beq_eq_false_iff_ne]; omega
  have w1 : wrap64 ((r : Int) + (P : Int)) = (r : Int) + (P : Int) := by unfold wrap64; omega
  have w2 : IntKind.u64.wrap (r : Int) = (r : Int) := by rw [IntKind.wrap_u64]; omega
  have w3 : IntKind.u64.wrap (P : Int) = (P : Int) := by rw [IntKind.wrap_u64]; omega
  have w4 : wrap64 (r : Int) = (r : Int) := by unfold wrap64; omega
  have w5 : wrap64 (P : Int) = (P : Int) := by unfold wrap64; omega
  have d1 : decide ((1152921504606846976 : Int) < (r : Int)) = false := decide_eq_false (by omega)
  have d2 : decide ((P : Int) ≤ 1152921504606846976) = true := decide_eq_true (by omega)
  clear h1 hmd hr
  go_enter Tryz.func149, Tryz.ntmps149
  go_wp2_with fail
  refine (hg.out _).mono ?_
  rintro e v1 ⟨rfl, hx1⟩
  have k1 := Keep.of_ext (X := fun _ => False) hx1
  have hC : Hid (Blk v1 w.heap.size 231 #[.int .i64 0, .int .i64 1]) := Lib.hid (k1.blk (Blk.alloc (blk_new' rfl rfl) _) id)
  have hR : Hid (Blk v1 (w.heap.size + 1) 231 #[.int .i64 0, .int .i64 0]) := Lib.hid (k1.blk (blk_new' (by simp) rfl) id)
  have hE := Lib.hid (show Ext w v1 from Ext.trans (by exact (by with_reducible repeat' (first | exact Ext.refl _ | assumption | refine Ext.drewN ?_ _ | refine Ext.drew ?_ | refine Ext.alloc ?_ _ | refine Ext.trans ?_ (by with_reducible assumption)))) hx1)
  have c0 : v1.cell? ⟨w.heap.size, 0, none⟩ = some (.int .i64 0) := hC.out.cell 0
  have c1 : v1.cell? ⟨w.heap.size, 1, none⟩ = some (.int .i64 1) := hC.out.cell 1
  have l0 := hC.out.lt
  clear k1 hx1 hg
  go_wp2_with fail
  refine (hi.out _).mono ?_
  rintro e v2 ⟨rfl, hx1⟩
  replace hC := Lib.hid ((Keep.of_ext (X := fun _ => False) hx1).blk hC.out id)
  replace hR := Lib.hid ((Keep.of_ext (X := fun _ => False) hx1).blk hR.out id)
  replace hE := Lib.hid (hE.out.trans hx1)
  clear c0 c1 l0 hx1
  have c0 : v2.cell? ⟨w.heap.size, 0, none⟩ = some (.int .i64 0) := hC.out.cell 0
  have c1 : v2.cell? ⟨w.heap.size, 1, none⟩ = some (.int .i64 1) := hC.out.cell 1
  have l0 := hC.out.lt
  go_wp2_with fail
  refine (hm1.out _).mono ?_
  rintro e v3 ⟨rfl, hx1⟩
  replace hC := Lib.hid ((Keep.of_ext (X := fun _ => False) hx1).blk hC.out id)
  replace hR := Lib.hid ((Keep.of_ext (X := fun _ => False) hx1).blk hR.out id)
  replace hE := Lib.hid (hE.out.trans hx1)
  clear c0 c1 l0 hx1
  have c0 : v3.cell? ⟨w.heap.size, 0, none⟩ = some (.int .i64 0) := hC.out.cell 0
  have c1 : v3.cell? ⟨w.heap.size, 1, none⟩ = some (.int .i64 1) := hC.out.cell 1
  have l0 := hC.out.lt
  go_wp2_with fail
  refine (hd.out _).mono ?_
  rintro e v4 ⟨rfl, hx1⟩
  replace hC := Lib.hid ((Keep.of_ext (X := fun _ => False) hx1).blk hC.out id)
  replace hR := Lib.hid ((Keep.of_ext (X := fun _ => False) hx1).blk hR.out id)
  replace hE := Lib.hid (hE.out.trans hx1)
  clear c0 c1 l0 hx1
  have c0 : v4.cell? ⟨w.heap.size, 0, none⟩ = some (.int .i64 0) := hC.out.cell 0
  have c1 : v4.cell? ⟨w.heap.size, 1, none⟩ = some (.int .i64 1) := hC.out.cell 1
  have l0 := hC.out.lt
  go_wp2_with fail
  refine (hm1.out _).mono ?_
  rintro e v5 ⟨rfl, hx1⟩
  replace hC := Lib.hid ((Keep.of_ext (X := fun _ => False) hx1).blk hC.out id)
  replace hR := Lib.hid ((Keep.of_ext (X := fun _ => False) hx1).blk hR.out id)
  replace hE := Lib.hid (hE.out.trans hx1)
  clear c0 c1 l0 hx1
  have c0 : v5.cell? ⟨w.heap.size, 0, none⟩ = some (.int .i64 0) := hC.out.cell 0
  have c1 : v5.cell? ⟨w.heap.size, 1, none⟩ = some (.int .i64 1) := hC.out.cell 1
  have l0 := hC.out.lt
  have hR5 := Lib.hid (show w.heap.size + 1 < v5.heap.size from hR.out.lt)
  go_upto_region 16 with (fail)
  refine wp_abs (S := fun W => Hid (Ext v5 W) ∧ Hid (Blk W v5.heap.size 231 #[.int .i64 (r : Int), .int .i64 0])) ?_ ?_
  ·exact ⟨Lib.hid (by exact (by with_reducible repeat' (first | exact Ext.refl _ | assumption | refine Ext.drewN ?_ _ | refine Ext.drew ?_ | refine Ext.alloc ?_ _ | refine Ext.trans ?_ (by with_reducible assumption)))), Lib.hid (blk_new' rfl rfl)⟩
  rintro v6 ⟨hx1, hN⟩
  replace hC := Lib.hid ((Keep.of_ext (X := fun _ => False) hx1.out).blk hC.out id)
  replace hR := Lib.hid ((Keep.of_ext (X := fun _ => False) hx1.out).blk hR.out id)
  have hne : Hid (w.heap.size + 1 ≠ v5.heap.size ∧ w.heap.size ≤ v5.heap.size) := Lib.hid (by have h5 := hR5.out; omega)
  replace hE := Lib.hid (hE.out.trans hx1.out)
  clear c0 c1 l0 hx1
  have c0 : v6.cell? ⟨w.heap.size, 0, none⟩ = some (.int .i64 0) := hC.out.cell 0
  have c1 : v6.cell? ⟨w.heap.size, 1, none⟩ = some (.int .i64 1) := hC.out.cell 1
  have l0 := hC.out.lt
  go_wp2_with fail
  refine (hm2.out _).mono ?_
  rintro e v7 ⟨rfl, hx1⟩
  replace hR := Lib.hid ((Keep.of_ext (X := fun _ => False) hx1).blk hR.out id)
  replace hN := Lib.hid ((Keep.of_ext (X := fun _ => False) hx1).blk hN.out id)
  replace hE := Lib.hid (hE.out.trans hx1)
  clear c0 c1 l0 hx1 hC hi hm1 hm2 hd
  have c0 : v7.cell? ⟨v5.heap.size, 0, none⟩ = some (.int .i64 (r : Int)) := hN.out.cell 0
  have c1 : v7.cell? ⟨v5.heap.size, 1, none⟩ = some (.int .i64 0) := hN.out.cell 1
  have fc := hN.out.frozen 1
  have l0 := hN.out.lt
  go_upto_region 19 with (fail)
  refine wp_abs (S := fun W => Hid (Ext w W) ∧ Hid (Blk W v5.heap.size 231 #[.int .i64 (r : Int), .int .i64 (P : Int)]) ∧ Hid (Blk W (w.heap.size + 1) 231 #[.int .i64 0, .int .i64 0])) ?_ ?_
  ·exact ⟨Lib.hid (hE.out.setCell hne.out.2 _), Lib.hid (hN.out.set_ 1 _), Lib.hid (hR.out.far (p := ⟨v5.heap.size, 1, none⟩) hne.out.1 _)⟩
  clear c0 c1 fc l0
  rintro v8 ⟨hE8, hN8, hR8⟩
  have c0 : v8.cell? ⟨v5.heap.size, 0, none⟩ = some (.int .i64 (r : Int)) := hN8.out.cell 0
  have c1 : v8.cell? ⟨v5.heap.size, 1, none⟩ = some (.int .i64 (P : Int)) := hN8.out.cell 1
  have l0 := hN8.out.lt
  have r0 : v8.cell? ⟨w.heap.size + 1, 0, none⟩ = some (.int .i64 0) := hR8.out.cell 0
  have r1 : v8.cell? ⟨w.heap.size + 1, 1, none⟩ = some (.int .i64 0) := hR8.out.cell 1
  have f0 := hR8.out.frozen 0
  have f1 := hR8.out.frozen 1
  have l1 := hR8.out.lt
  go_wp2
  refine bodyPost_ret (classMeet_results rfl ((hR8.out.set_ 0 (.int .i64 (r : Int))).set_ 1 (.int .i64 (P : Int)))) rfl ?_
  exact ⟨rfl, ((hE8.out.setCell (p := ⟨w.heap.size + 1, 0, none⟩) (by show w.heap.size ≤ w.heap.size + 1; omega) _).setCell (p := ⟨w.heap.size + 1, 1, none⟩) (by show w.heap.size ≤ w.heap.size + 1; omega) _)⟩
end Go.Proofs.YtgolicoalldidaaGreat
