/- What the reference's makers make: valid tasks, small trees. -/
import Derived.Test.YtonmlmkemliefaaMadeB
import Derived.Test.YtonmlmkemliefaaPlainB
namespace Go.Proofs.Ytonmlmkemliefaa
open Go.RowKit

/-- A raw list of bytes. -/
def RawsOk (l : List RawD) : Prop := ∀ x ∈ l, byteB x.people ∧ ∀ y ∈ x.opts, OctOk y
theorem Raws.ok {w : World} {v : Value} {l : List RawD} (h : Raws w v l) : RawsOk l := by
  obtain ⟨S, _, h2⟩ := h
  intro x hx
  obtain ⟨i, hi⟩ := List.mem_iff_getElem?.1 hx
  have hlt := (List.getElem?_eq_some_iff.1 hi).1
  have := h2 i hlt
  rw [hi] at this
  exact ⟨this.2, this.1.2⟩

theorem spansT_ok {x : Oct} (h : OctOk x) : normalB (spansT x) = true ∧ (spansT x).length ≤ 2 := by
  obtain ⟨a, b, c, d⟩ := x
  obtain ⟨_, _, ⟨hc0, hc1⟩, ⟨hd0, hd1⟩⟩ := h
  dsimp only at hc0 hc1 hd0 hd1
  have f0 : 0 ≤ fromT ⟨a, b, c, d⟩ ∧ fromT ⟨a, b, c, d⟩ ≤ 165 := by simp only [fromT]; omega
  simp only [spansT]
  generalize fromT ⟨a, b, c, d⟩ = f at f0 ⊢
  have m0 : 0 ≤ d % 8 := by omega
  have m1 : d % 8 ≤ 7 := by omega
  generalize d % 8 = m at m0 m1 ⊢
  by_cases h1 : 0 < m <;> by_cases h2 : 128 ≤ d <;> simp [h1, h2, normalB, chainB, rangedB, farB] <;> omega
theorem optT_ok {x : Oct} (h : OctOk x) : optOkB (optT x) = true := by
  have hs := (spansT_ok h).1
  obtain ⟨a, b, c, d⟩ := x
  obtain ⟨⟨ha0, ha1⟩, ⟨hb0, hb1⟩, _, _⟩ := h
  dsimp only at ha0 ha1 hb0 hb1
  have h1 : 0 ≤ a % 6 ∧ a % 6 ≤ 1000000 ∧ -1 ≤ b % 4 - 1 ∧ b % 4 - 1 < 256 := by omega
  simp only [optOkB, optT] at hs ⊢
  simp [hs, h1]
theorem peopleB_of : ∀ (l : List Int) (p : Option Int), (∀ x ∈ l, 0 ≤ x ∧ x < 512) → (match p with | none => True | some e => ∀ x ∈ l, e < x) → l.Pairwise (· < ·) → peopleB p l = true
  | [], _, _, _, _ => rfl
  | x :: r, p, h, hp, hs => by
    have hx := h x List.mem_cons_self
    rw [List.pairwise_cons] at hs
    have ih := peopleB_of r (some x) (fun y hy => h y (List.mem_cons_of_mem _ hy)) hs.1 hs.2
    simp only [peopleB, ih, Bool.and_true, Bool.and_eq_true, decide_eq_true_eq]
    refine ⟨hx, ?_⟩
    cases p with
    | none => rfl
    | some e => simpa using hp x List.mem_cons_self
theorem peopleTo_ok (n : Int) : peopleB none (peopleTo n 5) = true ∧ (peopleTo n 5).length ≤ 5 := by
  refine ⟨peopleB_of _ none ?_ trivial ?_, peopleTo_len n 5⟩
  · intro x hx
    simp only [peopleTo, List.mem_map, List.mem_filter, List.mem_range] at hx
    obtain ⟨k, ⟨hk, _⟩, rfl⟩ := hx
    omega
  · unfold peopleTo
    rw [List.pairwise_map]
    exact (List.Pairwise.filter _ List.pairwise_lt_range).imp fun h => by omega
theorem wishT_opts {i : Nat} {x : RawD} (hi : i < 4) (h : ∀ y ∈ x.opts, OctOk y) : (∀ o ∈ (wishT i x).opts, ∃ y, OctOk y ∧ o = optT y) ∧ 0 < (wishT i x).opts.length ∧ (wishT i x).opts.length ≤ 4 := by
  simp only [wishT]
  split
  · rename_i h0
    refine ⟨?_, by simp, by simp⟩
    intro o ho
    simp at ho
    subst ho
    exact ⟨⟨0, 1, i, 3⟩, by constructor <;> constructor <;> dsimp only <;> omega, rfl⟩
  · rename_i h0
    refine ⟨?_, by simp; omega, by simp; omega⟩
    intro o ho
    rw [List.mem_map] at ho
    obtain ⟨y, hy, rfl⟩ := ho
    exact ⟨y, h y (List.mem_of_mem_take hy), rfl⟩
theorem wishT_ok {i : Nat} {x : RawD} (hi : i < 4) (h : ∀ y ∈ x.opts, OctOk y) : wishOkB (wishT i x) = true := by
  obtain ⟨h1, h2, _⟩ := wishT_opts hi h
  have hp := (peopleTo_ok x.people).1
  have ho : (wishT i x).opts.all optOkB = true := by
    rw [List.all_eq_true]
    intro o ho
    obtain ⟨y, hy, rfl⟩ := h1 o ho
    exact optT_ok hy
  have e1 : (wishT i x).people = peopleTo x.people 5 := rfl
  have e2 : (wishT i x).meeting = 10 + (i : Int) := rfl
  simp only [wishOkB, e1, e2, hp, ho, Bool.and_true, Bool.true_and, Bool.and_eq_true, decide_eq_true_eq]
  omega
theorem madeFrom_ok : ∀ (l : List RawD) (i : Nat) (p : Option Int), RawsOk l → (match p with | none => True | some e => e < 10 + (i : Int)) → wishesB p (madeFrom i l) = true
  | [], _, _, _, _ => rfl
  | x :: r, i, p, h, hp => by
    by_cases hi : i < 4
    · rw [madeFrom_step hi]
      have h1 := wishT_ok hi (h x List.mem_cons_self).2
      have ih := madeFrom_ok r (i + 1) (some (10 + (i : Int))) (fun y hy => h y (List.mem_cons_of_mem _ hy)) (by dsimp only; omega)
      have e2 : (wishT i x).meeting = 10 + (i : Int) := rfl
      simp only [wishesB, h1, e2, ih, Bool.and_true, Bool.true_and]
      cases p with
      | none => rfl
      | some e => simpa using hp
    · rw [madeFrom_stop hi]; rfl
theorem madeFrom_len : ∀ (l : List RawD) (i : Nat), (madeFrom i l).length ≤ 4 - i
  | [], _ => by simp [madeFrom]
  | x :: r, i => by
    by_cases hi : i < 4
    · rw [madeFrom_step hi]
      have := madeFrom_len r (i + 1)
      simp only [List.length_cons]
      omega
    · rw [madeFrom_stop hi]; simp
theorem madeFrom_mem : ∀ {l : List RawD} {i : Nat} {x : WishD}, x ∈ madeFrom i l → ∃ j y, j < 4 ∧ y ∈ l ∧ x = wishT j y
  | [], _, x, h => by cases h
  | y :: r, i, x, h => by
    by_cases hi : i < 4
    · rw [madeFrom_step hi] at h
      rcases List.mem_cons.1 h with rfl | h
      · exact ⟨i, y, hi, List.mem_cons_self, rfl⟩
      · obtain ⟨j, z, h1, h2, h3⟩ := madeFrom_mem h
        exact ⟨j, z, h1, List.mem_cons_of_mem _ h2, h3⟩
    · rw [madeFrom_stop hi] at h; cases h
theorem made_opts {l : List RawD} (h : RawsOk l) {x : WishD} (hx : x ∈ madeT l) : 0 < x.opts.length ∧ x.opts.length ≤ 4 ∧ x.people.length ≤ 5 ∧ ∀ o ∈ x.opts, o.spans.length ≤ 2 ∧ o.harm ≤ 5 := by
  unfold madeT at hx
  split at hx
  · simp at hx
    subst hx
    simp
  · obtain ⟨j, y, h1, h2, rfl⟩ := madeFrom_mem hx
    obtain ⟨a, b, c⟩ := wishT_opts h1 (h y h2).2
    refine ⟨b, c, (peopleTo_ok y.people).2, fun o ho => ?_⟩
    obtain ⟨z, hz, rfl⟩ := a o ho
    refine ⟨(spansT_ok hz).2, ?_⟩
    simp only [optT]
    omega
theorem made_len {l : List RawD} : 0 < (madeT l).length ∧ (madeT l).length ≤ 4 := by
  unfold madeT
  split
  · simp
  · have := madeFrom_len l 0
    refine ⟨?_, by omega⟩
    cases l with
    | nil => simp at *
    | cons x r => simp [madeFrom]
theorem made_valid {l : List RawD} (h : RawsOk l) : validT (madeT l) = 0 := by
  have hlen := made_len (l := l)
  have hbig : tooLargeB (madeT l) = false := by
    simp only [tooLargeB, Bool.or_eq_false_iff, decide_eq_false_iff_not, List.any_eq_false]
    refine ⟨by omega, fun x hx => ?_⟩
    obtain ⟨h1, h2, h3, h4⟩ := made_opts h hx
    simp only [Bool.or_eq_true, decide_eq_true_eq, List.any_eq_true, not_or, not_exists, not_and]
    refine ⟨⟨by omega, by omega⟩, fun o ho => ?_⟩
    have := (h4 o ho).1
    omega
  have hok : wishesB none (madeT l) = true := by
    unfold madeT
    split
    · decide
    · exact madeFrom_ok l 0 none h trivial
  unfold validT
  rw [hbig, hok]
  simp
  intro he
  rw [he] at hlen
  simp at hlen
def fourTree : Nat → Nat
  | 0 => 1
  | n + 1 => 1 + 4 * fourTree n
theorem treeMax_le : ∀ (l : List WishD), (∀ x ∈ l, x.opts.length ≤ 4) → treeMax l ≤ fourTree l.length
  | [], _ => by simp [treeMax, fourTree]
  | x :: r, h => by
    have h1 := treeMax_le r fun y hy => h y (List.mem_cons_of_mem _ hy)
    have h2 := h x List.mem_cons_self
    have h3 : x.opts.length * treeMax r ≤ 4 * treeMax r := Nat.mul_le_mul_right _ h2
    simp only [treeMax, List.length_cons, fourTree]
    omega
theorem tree_four {l : List WishD} (h : ∀ x ∈ l, x.opts.length ≤ 4) (hl : l.length ≤ 4) : treeMax l ≤ 341 := by
  have h1 := treeMax_le l h
  have : ∀ n, n ≤ 4 → fourTree n ≤ 341 := by decide
  have := this _ hl
  omega
theorem made_tree {l : List RawD} (h : RawsOk l) : treeMax (madeT l) ≤ 341 := tree_four (fun _ hx => (made_opts h hx).2.1) made_len.2
end Go.Proofs.Ytonmlmkemliefaa
