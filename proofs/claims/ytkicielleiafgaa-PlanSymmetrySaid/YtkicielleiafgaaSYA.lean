/- The plain law of PlanSymmetry: a task whose spans are all moved by the same time. -/
import Derived.Test.YtkicielleiafgaaPM
import Derived.Test.YtkicielleiafgaaRG
namespace Go.Proofs.Ytkicielleiafgaa
open Go.RowKit

def movS (d : Int) (s : Int × Int) : Int × Int := (s.1 + d, s.2 + d)
def movO (d : Int) (o : OptD) : OptD := { o with spans := o.spans.map (movS d) }
def movW (d : Int) (x : WishD) : WishD := { x with opts := x.opts.map (movO d) }
def movT (d : Int) (t : List WishD) : List WishD := t.map (movW d)
theorem dec_eq {p q : Prop} [Decidable p] [Decidable q] (h : p ↔ q) : decide p = decide q := by
  rw [Bool.eq_iff_iff, decide_eq_true_iff, decide_eq_true_iff]
  exact h
theorem mov_lt (d : Int) (x y : Int × Int) : decide ((movS d x).1 < (movS d y).2) = decide (x.1 < y.2) := dec_eq (by show x.1 + d < y.2 + d ↔ _; omega)
theorem mov_far {d : Int} (hd : -2147483648 ≤ d ∧ d ≤ 2147483647) {u : Int} (h : 0 ≤ u ∧ u ≤ 1000) : farB (u + d) = false := by
  unfold farB
  rw [decide_eq_false (by omega), decide_eq_false (by omega)]
  rfl
theorem mov_meet (d : Int) (a b : List (Int × Int)) : meetB (a.map (movS d)) (b.map (movS d)) = meetB a b := by
  unfold meetB
  rw [List.any_map]
  congr 1
  funext x
  simp only [Function.comp, List.any_map]
  congr 1
  funext y
  simp only [Function.comp, mov_lt]
theorem mov_clash (d : Int) (x y : WishD) (o p : OptD) : clashB (movW d x) (movW d y) (movO d o) (movO d p) = clashB x y o p := by
  unfold clashB
  rw [show (movO d o).spans = o.spans.map (movS d) from rfl, show (movO d p).spans = p.spans.map (movS d) from rfl, mov_meet]
  rfl
theorem mov_optOf (d : Int) (t : List WishD) (p : List Int) (j : Nat) : optOf (movT d t) p j = (optOf t p j).map fun r => (movW d r.1, movO d r.2) := by
  unfold optOf movT
  rw [List.getElem?_map]
  cases t[j]? with
  | none => rfl
  | some x =>
    simp only [Option.map_some, Option.bind_some]
    cases p[j]? with
    | none => rfl
    | some k =>
      simp only [Option.bind_some]
      split
      · show ((x.opts.map (movO d))[k.toNat]?).map _ = _
        rw [List.getElem?_map]
        cases x.opts[k.toNat]? <;> rfl
      · rfl
theorem mov_clashAt (d : Int) (t : List WishD) (p : List Int) (i j : Nat) : clashAt (movT d t) p i j = clashAt t p i j := by
  unfold clashAt
  rw [mov_optOf, mov_optOf]
  cases optOf t p i with
  | none => rfl
  | some a =>
    cases optOf t p j with
    | none => rfl
    | some b => exact mov_clash d _ _ _ _
theorem mov_earlier (d : Int) (t : List WishD) (p : List Int) (j : Nat) : earlierI (movT d t) p j = earlierI t p j := by
  unfold earlierI
  congr 1
  funext i
  exact mov_clashAt d t p i j
theorem mov_okFrom (d : Int) (t : List WishD) (k : Nat) (p : List Int) : okFrom (movT d t) k p = okFrom t k p := by
  unfold okFrom
  congr 1
  funext j
  rw [mov_earlier]
theorem mov_kids {d : Int} {f g : Int → OptD → List (List Int × Int)} (h : ∀ i o, f i (movO d o) = g i o) : ∀ (l : List OptD) (i : Int), kidsC f (l.map (movO d)) i = kidsC g l i
  | [], _ => rfl
  | o :: r, i => by
    simp only [List.map_cons, kidsC, h, mov_kids h r (i + 1)]
theorem mov_choices (d : Int) : ∀ (t : List WishD) (pre : List Int) (harm : Int), choicesL (movT d t) pre harm = choicesL t pre harm
  | [], _, _ => rfl
  | x :: r, pre, harm => by
    show kidsC (fun i o => choicesL (movT d r) (pre ++ [i]) (harm + o.harm)) (x.opts.map (movO d)) 0 = _
    exact mov_kids (fun i o => mov_choices d r _ _) _ _
theorem mov_lawful (d : Int) (t : List WishD) : lawfulL (movT d t) = lawfulL t := by
  unfold lawfulL
  rw [mov_choices]
  congr 1
  funext c
  rw [mov_okFrom]
theorem mov_best (d : Int) (t : List WishD) : bestOf (movT d t) = bestOf t := by
  unfold bestOf
  rw [mov_lawful]

/-! ### validity -/
def SmallT (t : List WishD) : Prop := ∀ x ∈ t, ∀ o ∈ x.opts, ∀ s ∈ o.spans, 0 ≤ s.1 ∧ s.1 ≤ 1000 ∧ 0 ≤ s.2 ∧ s.2 ≤ 1000
theorem mov_chain (d : Int) : ∀ (l : List (Int × Int)) (p : Option Int), chainB (p.map (· + d)) (l.map (movS d)) = chainB p l
  | [], _ => rfl
  | s :: r, p => by
    have ih := mov_chain d r (some s.2)
    simp only [List.map_cons, chainB]
    have e1 : decide ((movS d s).1 < (movS d s).2) = decide (s.1 < s.2) := mov_lt d s s
    have e2 : chainB (some (movS d s).2) (r.map (movS d)) = chainB (some s.2) r := ih
    rw [e1, e2]
    congr 1
    congr 1
    cases p with
    | none => rfl
    | some e =>
      exact dec_eq (p := e + d < s.1 + d) (q := e < s.1) (by omega)
theorem mov_normal {d : Int} {l : List (Int × Int)} (hd : -2147483648 ≤ d ∧ d ≤ 2147483647) (hs : ∀ s ∈ l, 0 ≤ s.1 ∧ s.1 ≤ 1000 ∧ 0 ≤ s.2 ∧ s.2 ≤ 1000) (h : normalB l = true) : normalB (l.map (movS d)) = true := by
  simp only [normalB, Bool.and_eq_true] at h ⊢
  refine ⟨(mov_chain d l none).trans h.1, ?_⟩
  simp only [rangedB, List.all_map, List.all_eq_true, Function.comp]
  intro s hm
  have := hs s hm
  show (!(farB (s.1 + d) || farB (s.2 + d))) = true
  rw [mov_far hd ⟨this.1, this.2.1⟩, mov_far hd this.2.2]
  rfl
theorem mov_wishOk {d : Int} {x : WishD} (hd : -2147483648 ≤ d ∧ d ≤ 2147483647) (hs : ∀ o ∈ x.opts, ∀ s ∈ o.spans, 0 ≤ s.1 ∧ s.1 ≤ 1000 ∧ 0 ≤ s.2 ∧ s.2 ≤ 1000) (h : wishOkB x = true) : wishOkB (movW d x) = true := by
  simp only [wishOkB, Bool.and_eq_true, List.all_eq_true] at h ⊢
  obtain ⟨⟨⟨h1, h2⟩, h3⟩, h4⟩ := h
  refine ⟨⟨⟨h1, h2⟩, by simpa [movW] using h3⟩, fun o ho => ?_⟩
  obtain ⟨o', ho', rfl⟩ := List.mem_map.1 ho
  have := h4 o' ho'
  simp only [optOkB, Bool.and_eq_true] at this ⊢
  exact ⟨this.1, mov_normal hd (hs o' ho') this.2⟩
theorem mov_wishes {d : Int} (hd : -2147483648 ≤ d ∧ d ≤ 2147483647) : ∀ (t : List WishD) (p : Option Int), SmallT t → wishesB p t = true → wishesB p (movT d t) = true
  | [], _, _, _ => rfl
  | x :: r, p, hs, h => by
    simp only [wishesB, Bool.and_eq_true] at h
    have ih := mov_wishes hd r (some x.meeting) (fun y hy => hs y (List.mem_cons_of_mem _ hy)) h.2
    show wishesB p (movW d x :: movT d r) = true
    simp only [wishesB, Bool.and_eq_true]
    exact ⟨⟨mov_wishOk hd (hs x List.mem_cons_self) h.1.1, h.1.2⟩, ih⟩
theorem mov_large (d : Int) (t : List WishD) : tooLargeB (movT d t) = tooLargeB t := by
  unfold tooLargeB movT
  rw [List.length_map, List.any_map]
  congr 1
  congr 1
  funext x
  simp only [Function.comp, movW, List.length_map, List.any_map]
  congr 1
  congr 1
  funext o
  simp only [Function.comp, movO, List.length_map]
theorem mov_valid {d : Int} {t : List WishD} (hd : -2147483648 ≤ d ∧ d ≤ 2147483647) (hs : SmallT t) (h : validT t = 0) : validT (movT d t) = 0 := by
  unfold validT at h ⊢
  rw [mov_large]
  split at h
  · cases h
  · rename_i hl
    rw [if_neg hl]
    split at h
    · rename_i hw
      rw [Bool.and_eq_true] at hw
      rw [mov_wishes hd t none hs hw.1]
      have : (movT d t).length = t.length := by simp [movT]
      rw [this, hw.2]
      rfl
    · cases h
theorem mov_optAt (d : Int) (t : List WishD) (a i : Int) : optAt (movT d t) a i = (optAt t a i).map fun r => (movW d r.1, movO d r.2) := by
  unfold optAt movT
  rw [List.length_map, List.getElem?_map]
  split
  · cases t[a.toNat]? with
    | none => rfl
    | some x =>
      simp only [Option.map_some, Option.bind_some]
      rw [show (movW d x).opts = x.opts.map (movO d) from rfl, List.length_map, List.getElem?_map]
      split
      · cases x.opts[i.toNat]? <;> rfl
      · rfl
  · rfl
theorem mov_clashT {d : Int} {t : List WishD} (h : validT t = 0) (h' : validT (movT d t) = 0) (a i b k : Int) : clashT (movT d t) a i b k = clashT t a i b k := by
  unfold clashT
  rw [h, h', mov_optAt, mov_optAt]
  congr 1
  cases optAt t a i with
  | none => rfl
  | some x =>
    cases optAt t b k with
    | none => rfl
    | some y => exact mov_clash d _ _ _ _
theorem spansT_small {x : Oct} (h : OctOk x) : ∀ s ∈ spansT x, 0 ≤ s.1 ∧ s.1 ≤ 1000 ∧ 0 ≤ s.2 ∧ s.2 ≤ 1000 := by
  obtain ⟨a, b, c, d⟩ := x
  obtain ⟨_, _, ⟨hc0, hc1⟩, ⟨hd0, hd1⟩⟩ := h
  dsimp only at hc0 hc1 hd0 hd1
  have f0 : 0 ≤ fromT ⟨a, b, c, d⟩ ∧ fromT ⟨a, b, c, d⟩ ≤ 165 := by simp only [fromT]; omega
  simp only [spansT]
  generalize fromT ⟨a, b, c, d⟩ = f at f0 ⊢
  have m0 : 0 ≤ d % 8 := by omega
  have m1 : d % 8 ≤ 7 := by omega
  generalize d % 8 = m at m0 m1 ⊢
  intro s hs
  rw [List.mem_append] at hs
  rcases hs with hs | hs
  · split at hs
    · obtain rfl : s = (f, f + 15 * m) := by simpa using hs
      dsimp only
      omega
    · cases hs
  · split at hs
    · obtain rfl : s = (400 + f, 430 + f) := by simpa using hs
      dsimp only
      omega
    · cases hs
theorem made_small {l : List RawD} (h : RawsOk l) : SmallT (madeT l) := by
  intro x hx
  unfold madeT at hx
  split at hx
  · simp at hx
    subst hx
    simp
  · obtain ⟨j, y, h1, h2, rfl⟩ := madeFrom_mem hx
    obtain ⟨a, b, c⟩ := wishT_opts h1 (h y h2).2
    intro o ho
    obtain ⟨z, hz, rfl⟩ := a o ho
    exact spansT_small hz
/-- what the law says of a clash of two options -/
theorem clash_meet {t : List WishD} {a i b k : Nat} {x y : WishD} {o p : OptD} (hv : validT t = 0) (hx : t[a]? = some x) (hy : t[b]? = some y) (ho : x.opts[i]? = some o) (hp : y.opts[k]? = some p)
    (h1 : ∀ s ∈ o.spans, s.1 < s.2) (h2 : ∀ s ∈ p.spans, s.1 < s.2) :
    clashT t a i b k = (!decide (a = b) && ((decide (0 ≤ o.room) && decide (o.room = p.room) || shareB x.people y.people) && decide (0 < (combL 1 o.spans p.spans).length))) := by
  unfold clashT
  rw [hv, optAt_some hx ho, optAt_some hy hp, comb_meet h1 h2]
  have e : decide ((a : Int) ≠ (b : Int)) = !decide (a = b) := by
    by_cases h : a = b
    · simp [h]
    · have : ¬ (a : Int) = (b : Int) := by omega
      simp [h, this]
  rw [e]
  simp only [decide_true, Bool.true_and, clashB]
  congr 2
  rw [Bool.and_comm (decide (o.room = p.room))]
end Go.Proofs.Ytkicielleiafgaa
