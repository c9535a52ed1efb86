/- The plain law of the best plan: of those with its harm it is the first in lexicographic order. -/
import Derived.Test.YtonmlmkemliefaaPlainB
namespace Go.Proofs.Ytonmlmkemliefaa
open Go.RowKit

def LexB : List Int → List Int → Prop
  | a :: ar, b :: br => a < b ∨ (a = b ∧ LexB ar br)
  | _, _ => False
theorem LexB.pre : ∀ (p : List Int) {s s' : List Int}, LexB s s' → LexB (p ++ s) (p ++ s')
  | [], _, _, h => h
  | _ :: p, _, _, h => Or.inr ⟨rfl, LexB.pre p h⟩
theorem LexB.at_ : ∀ {a b : List Int} {i : Nat} {x y : Int}, LexB a b → a.take i = b.take i → a[i]? = some x → b[i]? = some y → x ≠ y → x < y
  | [], b, i, x, y, h, _, _, _, _ => by cases b <;> cases h
  | _ :: _, [], i, x, y, h, _, _, _, _ => by cases h
  | a :: ar, b :: br, 0, x, y, h, _, hx, hy, hne => by
    simp at hx hy
    subst hx hy
    rcases h with h | ⟨h, _⟩
    · exact h
    · exact absurd h hne
  | a :: ar, b :: br, i + 1, x, y, h, ht, hx, hy, hne => by
    simp only [List.take_succ_cons, List.cons.injEq] at ht
    rcases h with h | ⟨_, h⟩
    · omega
    · exact LexB.at_ h ht.2 (by simpa using hx) (by simpa using hy) hne
theorem kidsC_pairwise {R : (List Int × Int) → (List Int × Int) → Prop} {f : Int → OptD → List (List Int × Int)} (h1 : ∀ i o, (f i o).Pairwise R) (h2 : ∀ i j o o', i < j → ∀ c ∈ f i o, ∀ d ∈ f j o', R c d) :
    ∀ (l : List OptD) (i : Int), (kidsC f l i).Pairwise R ∧ ∀ d ∈ kidsC f l i, ∃ j o, i ≤ j ∧ d ∈ f j o
  | [], i => ⟨List.Pairwise.nil, fun d hd => by cases hd⟩
  | o :: r, i => by
    obtain ⟨a, b⟩ := kidsC_pairwise h1 h2 r (i + 1)
    refine ⟨?_, ?_⟩
    · simp only [kidsC]
      rw [List.pairwise_append]
      refine ⟨h1 i o, a, fun c hc d hd => ?_⟩
      obtain ⟨j, o', hj, hd'⟩ := b d hd
      exact h2 i j o o' (by omega) c hc d hd'
    · intro d hd
      simp only [kidsC, List.mem_append] at hd
      rcases hd with hd | hd
      · exact ⟨i, o, Int.le_refl _, hd⟩
      · obtain ⟨j, o', hj, hd'⟩ := b d hd
        exact ⟨j, o', by omega, hd'⟩
theorem choicesL_sorted : ∀ (l : List WishD) (pre : List Int) (harm : Int), (choicesL l pre harm).Pairwise fun c d => LexB c.1 d.1
  | [], pre, harm => by simp [choicesL]
  | x :: r, pre, harm => by
    simp only [choicesL]
    refine (kidsC_pairwise (fun i o => choicesL_sorted r (pre ++ [i]) (harm + o.harm)) (fun i j o o' hij c hc d hd => ?_) x.opts 0).1
    obtain ⟨s, e, _⟩ := choicesL_pre hc
    obtain ⟨s', e', _⟩ := choicesL_pre hd
    rw [e, e', List.append_assoc, List.append_assoc]
    exact LexB.pre pre (Or.inl hij)
theorem foldFound_first : ∀ (l : List (List Int × Int)) (f : Option (List Int × Int)) (r : List Int × Int), foldFound f l = some r →
    f = some r ∨ ∃ l1 l2, l = l1 ++ r :: l2 ∧ (∀ x ∈ l1, r.2 < x.2) ∧ ∀ y, f = some y → r.2 < y.2
  | [], f, r, h => Or.inl h
  | x :: l, f, r, h => by
    have h' : foldFound (stepFound f x) l = some r := h
    rcases foldFound_first l _ r h' with h1 | ⟨l1, l2, e, h1, h2⟩
    · cases f with
      | none =>
        simp only [stepFound, Option.some.injEq] at h1
        subst h1
        exact Or.inr ⟨[], l, rfl, by simp, by simp⟩
      | some z =>
        simp only [stepFound] at h1
        split at h1
        · rename_i hlt
          cases h1
          exact Or.inr ⟨[], l, rfl, by simp, fun y hy => by cases hy; exact hlt⟩
        · exact Or.inl h1
    · right
      cases f with
      | none => exact ⟨x :: l1, l2, by rw [e]; rfl, fun y hy => by
          rcases List.mem_cons.1 hy with rfl | hy
          · exact h2 y rfl
          · exact h1 y hy, by simp⟩
      | some z =>
        by_cases hxz : x.2 < z.2
        · have hx := h2 x (by simp [stepFound, hxz])
          refine ⟨x :: l1, l2, by rw [e]; rfl, fun y hy => ?_, fun y hy => by cases hy; omega⟩
          rcases List.mem_cons.1 hy with rfl | hy
          · exact hx
          · exact h1 y hy
        · have hz := h2 z (by simp [stepFound, hxz])
          refine ⟨x :: l1, l2, by rw [e]; rfl, fun y hy => ?_, fun y hy => by cases hy; exact hz⟩
          rcases List.mem_cons.1 hy with rfl | hy
          · omega
          · exact h1 y hy
/-- of the lawful choices with the best plan's harm none comes before it -/
theorem bestOf_first {t : List WishD} (hv : validT t = 0) {p q : List Int} {h : Int} (hb : bestOf t = some (p, h)) (hq : lawfulB t q = true) (hh : sumH t q ≤ h) : q = p ∨ LexB p q := by
  have hmem := (mem_lawfulL hv (c := (q, sumH t q))).2 ⟨hq, rfl⟩
  rcases foldFound_first _ _ _ hb with h1 | ⟨l1, l2, e, h1, _⟩
  · cases h1
  · have hs : (lawfulL t).Pairwise fun c d => LexB c.1 d.1 := (choicesL_sorted t [] 0).filter _
    rw [e] at hmem hs
    rcases List.mem_append.1 hmem with hm | hm
    · have := h1 _ hm
      dsimp only at this
      omega
    · rcases List.mem_cons.1 hm with hm | hm
      · left
        cases hm
        rfl
      · right
        rw [List.pairwise_append] at hs
        exact (List.pairwise_cons.1 hs.2.1).1 _ hm
end Go.Proofs.Ytonmlmkemliefaa
