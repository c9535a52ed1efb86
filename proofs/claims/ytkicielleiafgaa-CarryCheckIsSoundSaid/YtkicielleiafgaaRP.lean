/- The plain law of trying all choices: each choice's next one in lexicographic order. -/
import Derived.Test.YtkicielleiafgaaPM
namespace Go.Proofs.Ytkicielleiafgaa
open Go.RowKit

def zerosT (t : List WishD) : List Int := t.map fun _ => 0
def nextL : List WishD → List Int → Option (List Int)
  | x :: r, k :: p => match nextL r p with
    | some q => some (k :: q)
    | none => if k + 1 < x.opts.length then some ((k + 1) :: zerosT r) else none
  | _, _ => none
theorem nextL_cons (x : WishD) (r : List WishD) (k : Int) (p : List Int) : nextL (x :: r) (k :: p) = match nextL r p with
    | some q => some (k :: q)
    | none => if k + 1 < x.opts.length then some ((k + 1) :: zerosT r) else none := by rw [nextL]
/-- the choices from p on -/
def afterC : List WishD → List Int → List Int → Int → List (List Int × Int)
  | x :: r, k :: p, pre, harm => afterC r p (pre ++ [k]) (harm + ((x.opts[k.toNat]?).getD default).harm) ++ kidsC (fun i o => choicesL r (pre ++ [i]) (harm + o.harm)) (x.opts.drop (k.toNat + 1)) (k + 1)
  | _, _, pre, harm => [(pre, harm)]
theorem zeros_choice : ∀ {t : List WishD}, (∀ x ∈ t, 0 < x.opts.length) → choiceB t (zerosT t) = true
  | [], _ => rfl
  | x :: t, h => by
    have ih := zeros_choice (t := t) fun y hy => h y (List.mem_cons_of_mem _ hy)
    have h1 := h x List.mem_cons_self
    have e : zerosT (x :: t) = 0 :: zerosT t := rfl
    rw [e]
    simp only [choiceB, Bool.and_eq_true]
    exact ⟨by simp [idxB]; omega, ih⟩
theorem after_zeros : ∀ (t : List WishD) (pre : List Int) (harm : Int), (∀ x ∈ t, 0 < x.opts.length) → afterC t (zerosT t) pre harm = choicesL t pre harm
  | [], _, _, _ => rfl
  | x :: t, pre, harm, h => by
    have ih := fun pre harm => after_zeros t pre harm fun y hy => h y (List.mem_cons_of_mem _ hy)
    have h1 := h x List.mem_cons_self
    have e : zerosT (x :: t) = 0 :: zerosT t := rfl
    rw [e]
    obtain ⟨o, os, ho⟩ : ∃ o os, x.opts = o :: os := by
      cases hx : x.opts with
      | nil => rw [hx] at h1; simp at h1
      | cons o os => exact ⟨o, os, rfl⟩
    have ea : afterC (x :: t) (0 :: zerosT t) pre harm = afterC t (zerosT t) (pre ++ [0]) (harm + ((x.opts[0]?).getD default).harm) ++ kidsC (fun i o => choicesL t (pre ++ [i]) (harm + o.harm)) (x.opts.drop 1) 1 := rfl
    have ec : choicesL (x :: t) pre harm = kidsC (fun i o => choicesL t (pre ++ [i]) (harm + o.harm)) x.opts 0 := rfl
    rw [ea, ec, ho, ih]
    rfl
theorem next_choice : ∀ {t : List WishD} {p q : List Int}, (∀ x ∈ t, 0 < x.opts.length) → choiceB t p = true → nextL t p = some q → choiceB t q = true
  | [], _, _, _, _, h => by cases h
  | _ :: _, [], _, _, _, h => by cases h
  | x :: t, k :: p, q, ho, hc, h => by
    have ho' : ∀ y ∈ t, 0 < y.opts.length := fun y hy => ho y (List.mem_cons_of_mem _ hy)
    simp only [choiceB, Bool.and_eq_true] at hc
    rw [nextL_cons] at h
    cases hn : nextL t p with
    | some q' =>
      rw [hn] at h
      cases h
      simp only [choiceB, Bool.and_eq_true]
      exact ⟨hc.1, next_choice ho' hc.2 hn⟩
    | none =>
      rw [hn] at h
      simp only at h
      split at h
      · rename_i hlt
        cases h
        obtain ⟨n, rfl, hn'⟩ := idxB_nat hc.1
        simp only [choiceB, Bool.and_eq_true]
        exact ⟨by simp [idxB]; omega, zeros_choice ho'⟩
      · cases h
theorem after_next : ∀ {t : List WishD} {p : List Int} (pre : List Int) (harm : Int), (∀ x ∈ t, 0 < x.opts.length) → choiceB t p = true →
    afterC t p pre harm = (pre ++ p, harm + sumH t p) :: match nextL t p with | some q => afterC t q pre harm | none => []
  | [], [], pre, harm, _, _ => by simp [afterC, nextL, sumH]
  | [], _ :: _, _, _, _, h => by simp [choiceB] at h
  | _ :: _, [], _, _, _, h => by simp [choiceB] at h
  | x :: t, k :: p, pre, harm, ho, hc => by
    have ho' : ∀ y ∈ t, 0 < y.opts.length := fun y hy => ho y (List.mem_cons_of_mem _ hy)
    simp only [choiceB, Bool.and_eq_true] at hc
    obtain ⟨n, rfl, hn⟩ := idxB_nat hc.1
    have ih := after_next (t := t) (p := p) (pre ++ [(n : Int)]) (harm + ((x.opts[n]?).getD default).harm) ho' hc.2
    have e0 : (pre ++ [(n : Int)]) ++ p = pre ++ ((n : Int) :: p) := by simp
    have e1 : harm + ((x.opts[n]?).getD default).harm + sumH t p = harm + sumH (x :: t) ((n : Int) :: p) := by simp only [sumH, Int.toNat_natCast]; omega
    rw [e0, e1] at ih
    have ea : afterC (x :: t) ((n : Int) :: p) pre harm = afterC t p (pre ++ [(n : Int)]) (harm + ((x.opts[n]?).getD default).harm) ++ kidsC (fun i o => choicesL t (pre ++ [i]) (harm + o.harm)) (x.opts.drop (n + 1)) ((n : Int) + 1) := rfl
    rw [ea, ih, nextL_cons]
    cases hnx : nextL t p with
    | some q =>
      simp only [List.cons_append, List.cons.injEq, true_and]
      rfl
    | none =>
      simp only [List.cons_append, List.cons.injEq, true_and]
      by_cases hlt : (n : Int) + 1 < x.opts.length
      · rw [if_pos hlt]
        have hlt' : n + 1 < x.opts.length := by omega
        rw [List.drop_eq_getElem_cons hlt']
        have e2 : ((n : Int) + 1).toNat = n + 1 := by omega
        simp only [kidsC, afterC, e2]
        rw [after_zeros t _ _ ho', List.getElem?_eq_getElem hlt']
        rfl
      · rw [if_neg hlt, List.drop_of_length_le (by omega)]
        rfl
theorem next_from : ∀ {t : List WishD} {p : List Int} {i : Nat} {q : List Int}, nextL (t.drop i) (p.drop i) = some q → i ≤ p.length → nextL t p = some (p.take i ++ q)
  | _, _, 0, _, h, _ => by simpa using h
  | [], _, i + 1, _, h, _ => by simp [nextL] at h
  | _ :: _, [], i + 1, _, _, hi => by simp at hi
  | x :: t, k :: p, i + 1, q, h, hi => by
    have := next_from (t := t) (p := p) (i := i) (q := q) (by simpa using h) (by simpa using hi)
    rw [nextL_cons, this]
    rfl
/-- at place i, all behind it at their last option -/
theorem next_here {t : List WishD} {p : List Int} {i : Nat} {x : WishD} {k : Int} (hx : t[i]? = some x) (hk : p[i]? = some k) (hn : nextL (t.drop (i + 1)) (p.drop (i + 1)) = none) :
    nextL (t.drop i) (p.drop i) = if k + 1 < x.opts.length then some ((k + 1) :: zerosT (t.drop (i + 1))) else none := by
  have hi := (List.getElem?_eq_some_iff.1 hx).1
  have hp := (List.getElem?_eq_some_iff.1 hk).1
  rw [List.drop_eq_getElem_cons hi, List.drop_eq_getElem_cons hp, (List.getElem?_eq_some_iff.1 hx).2, (List.getElem?_eq_some_iff.1 hk).2]
  rw [nextL_cons, hn]
theorem zerosT_len (t : List WishD) : (zerosT t).length = t.length := by simp [zerosT]
theorem zerosT_drop {t : List WishD} {i : Nat} (hi : i < t.length) : zerosT (t.drop i) = 0 :: zerosT (t.drop (i + 1)) := by
  rw [List.drop_eq_getElem_cons hi]; rfl
/-- the best so far, and what is still to come -/
def bestFrom (t : List WishD) (b : Option (List Int × Int)) (l : List (List Int × Int)) : Option (List Int × Int) := foldFound b (l.filter fun c => freeB t c.1)
theorem bestFrom_start {t : List WishD} (ho : ∀ x ∈ t, 0 < x.opts.length) : bestFrom t none (afterC t (zerosT t) [] 0) = bestOf t := by
  unfold bestFrom bestOf lawfulL
  rw [after_zeros t [] 0 ho]
  congr 1
  refine List.filter_congr fun c _ => ?_
  rw [okFrom_free]
theorem bestFrom_step {t : List WishD} {b : Option (List Int × Int)} {p : List Int} (ho : ∀ x ∈ t, 0 < x.opts.length) (hc : choiceB t p = true) :
    bestFrom t b (afterC t p [] 0) = bestFrom t (if freeB t p then stepFound b (p, sumH t p) else b) (match nextL t p with | some q => afterC t q [] 0 | none => []) := by
  rw [after_next [] 0 ho hc]
  unfold bestFrom
  rw [List.filter_cons, List.nil_append, Int.zero_add]
  cases freeB t p <;> rfl
end Go.Proofs.Ytkicielleiafgaa
