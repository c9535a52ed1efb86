/- Plain law of CarryFewSteps: how many steps Order makes, and how many wishes are parked. -/
import Derived.Test.YtkicielleiafgaaCQ
namespace Go.Proofs.Ytkicielleiafgaa
open Go.RowKit

/-- how many wishes change -/
def chg (p : List Int) : Nat := (p.filter fun x => !decide (x = 0)).length
theorem chg_step {p : List Int} {i : Nat} {x : Int} (h : p[i]? = some x) : chg (p.take (i + 1)) = chg (p.take i) + if x = 0 then 0 else 1 := by
  unfold chg
  rw [take_step h, List.filter_append, List.length_append]
  by_cases hx : x = 0 <;> simp [hx]
theorem chg_le (p : List Int) : chg p ≤ p.length := List.length_filter_le _ _
theorem chg_cons (x : Int) (p : List Int) : chg (x :: p) = (if x = 0 then 0 else 1) + chg p := by
  unfold chg
  by_cases hx : x = 0 <;> simp [hx] <;> omega
theorem left_zeros : ∀ (p : List Int) (n : Nat), p.length = n → left p (zeros n) = 2 * chg p
  | [], n, _ => by simp [left, chg]
  | _ :: _, 0, h => by simp at h
  | p :: ps, n + 1, h => by
    have := left_zeros ps n (by simpa using h)
    rw [chg_cons]
    simp only [zeros, List.replicate_succ, left] at this ⊢
    rw [this]
    unfold wgt
    by_cases hp : p = 0
    · subst hp; simp
    · rw [if_neg (by omega), if_neg (by decide), if_neg hp]; omega

theorem ord_way {t : List WishD} {pick : List Int} : ∀ (n : Nat) (st : List Int), Way t pick st → left pick st ≤ n → ∀ i, Way t pick (afterS st ((ordF t pick n st).take i))
  | n, st, h, hle, 0 => by simpa [afterS] using h
  | n, st, h, hle, i + 1 => by
    cases hn : goS t pick st with
    | none =>
      have e2 : ordF t pick n st = [] := by
        cases n with
        | zero => rfl
        | succ n => simp [ordF, hn]
      rw [e2]
      simpa [afterS] using h
    | some s =>
      obtain ⟨hw, hlt, _⟩ := h.step hn
      cases n with
      | zero => omega
      | succ n =>
        have e : ordF t pick (n + 1) st = s :: ordF t pick n (stepS st s) := by simp [ordF, hn]
        rw [e, List.take_succ_cons, afterS_cons]
        exact ord_way n (stepS st s) hw (by omega) i
theorem order_way {t : List WishD} {pick : List Int} (h : lawfulB t pick = true) (i : Nat) : Way t pick (stAt t (orderL t pick) i) :=
  ord_way _ _ (Way.begin h) (Nat.le_refl _) i
theorem count_le_chg : ∀ (st pick : List Int), st.length = pick.length → (∀ i, i < st.length → atI st i = -1 → atI pick i ≠ 0) → st.count (-1) ≤ chg pick
  | [], _, _, _ => by simp
  | _ :: _, [], h, _ => by simp at h
  | s :: ss, p :: ps, h, hi => by
    have := count_le_chg ss ps (by simpa using h) (fun i hl e => by have := hi (i + 1) (by simpa using hl); simpa [atI] using this (by simpa [atI] using e))
    rw [chg_cons, List.count_cons]
    have h0 := hi 0 (by simp)
    simp only [atI, List.getElem?_cons_zero, Option.getD_some] at h0
    by_cases hs : s = -1
    · rw [if_neg (h0 hs), hs]; simp; omega
    · have : (s == -1) = false := by simpa using hs
      rw [this]; simp; omega
theorem way_parked {t : List WishD} {pick st : List Int} (h : Way t pick st) : parkN st ≤ chg pick := by
  have hp := lawful_len h.lawful
  refine count_le_chg st pick (by rw [h.len, hp]) fun i hi e => ?_
  have hit : i < t.length := by rw [← h.len]; exact hi
  have := lawful_at h.lawful hit
  rcases h.at_ i hit with a | ⟨a, _⟩
  · omega
  · exact a
theorem mostTo_le {t : List WishD} {l : List StepD} {k : Nat} : ∀ (n : Nat), (∀ i, i < n → parkN (stAt t l i) ≤ k) → mostTo t l n ≤ k
  | 0, _ => Nat.zero_le _
  | n + 1, h => by
    unfold mostTo
    exact Nat.max_le.2 ⟨mostTo_le n fun i hi => h i (by omega), h n (by omega)⟩
theorem order_parked {t : List WishD} {pick : List Int} (h : lawfulB t pick = true) (n : Nat) : mostTo t (orderL t pick) n ≤ chg pick := mostTo_le n fun i _ => way_parked (order_way h i)
theorem order_len {t : List WishD} {pick : List Int} (h : lawfulB t pick = true) : (orderL t pick).length ≤ 2 * chg pick := by
  have := (order_spec h).2.2.1
  rwa [left_zeros pick t.length (lawful_len h)] at this

/-! ### where nothing stands in the way -/
def directB (t : List WishD) (pick : List Int) : Bool := (List.range pick.length).all fun i => (List.range pick.length).all fun k => !clashT t i (atI pick i) k 0
def dw (p s : Int) : Nat := if s = p then 0 else 1
/-- how many wishes are not where they go -/
def dif : List Int → List Int → Nat
  | p :: ps, s :: ss => dw p s + dif ps ss
  | _, _ => 0
theorem dif_set : ∀ {pick st : List Int} {i : Nat} (v : Int), i < st.length → i < pick.length → dif pick (st.set i v) + dw (atI pick i) (atI st i) = dif pick st + dw (atI pick i) v
  | [], _, _, _, _, h => by simp at h
  | _ :: _, [], _, _, h, _ => by simp at h
  | p :: ps, s :: ss, 0, v, _, _ => by simp [dif, atI]; omega
  | p :: ps, s :: ss, i + 1, v, h1, h2 => by
    have := dif_set (pick := ps) (st := ss) (i := i) v (by simpa using h1) (by simpa using h2)
    simp only [List.set_cons_succ, dif, atI, List.getElem?_cons_succ] at this ⊢
    omega
theorem dif_self : ∀ (p : List Int), dif p p = 0
  | [] => rfl
  | p :: ps => by simp [dif, dw, dif_self ps]
theorem dif_zeros : ∀ (p : List Int) (n : Nat), p.length = n → dif p (zeros n) = chg p
  | [], n, _ => by simp [dif, chg]
  | _ :: _, 0, h => by simp at h
  | p :: ps, n + 1, h => by
    have := dif_zeros ps n (by simpa using h)
    rw [chg_cons]
    simp only [zeros, List.replicate_succ, dif] at this ⊢
    rw [this]
    unfold dw
    by_cases hp : p = 0
    · subst hp; simp
    · rw [if_neg (by omega), if_neg hp]
def Straight (t : List WishD) (pick st : List Int) : Prop := ∀ i, i < t.length → atI st i = atI pick i ∨ atI st i = 0
theorem direct_go {t : List WishD} {pick st : List Int} (h : Way t pick st) (hd : directB t pick = true) (hs : Straight t pick st) {s : StepD} (hn : goS t pick st = some s) :
    ∃ i : Nat, i < t.length ∧ s = ((i : Int), atI pick i) ∧ atI st i ≠ atI pick i := by
  have hl := h.len
  have hp := lawful_len h.lawful
  cases next_some hn with
  | go i hi e hne hq => exact ⟨i, by omega, e, hne⟩
  | park j hj e hne h1 hno =>
    have := hno j hj
    have hq : quietB t (st.set j (atI pick j)) j = true := by
      rw [quiet_iff]
      intro k hk
      rw [List.length_set] at hk
      by_cases hjk : j = k
      · subst hjk; exact busy_self _ _ _
      · refine busy_no ?_
        rw [atI_set hj, atI_set_ne hjk]
        rcases hs k (by omega) with e | e
        · rw [e]; exact lawful_clash h.lawful (by omega) (by omega)
        · rw [e]
          simp only [directB, List.all_eq_true, List.mem_range, Bool.not_eq_true'] at hd
          exact hd j (by omega) k (by omega)
    rw [canB, hq, decide_eq_false hne] at this
    cases this
theorem direct_ord {t : List WishD} {pick : List Int} (hd : directB t pick = true) : ∀ (n : Nat) (st : List Int), Way t pick st → Straight t pick st → left pick st ≤ n →
    (ordF t pick n st).length = dif pick st ∧ ∀ i, Straight t pick (afterS st ((ordF t pick n st).take i))
  | n, st, h, hs, hle => by
    cases hn : goS t pick st with
    | none =>
      have e2 : ordF t pick n st = [] := by
        cases n with
        | zero => rfl
        | succ n => simp [ordF, hn]
      rw [e2]
      refine ⟨?_, fun i => by simpa [afterS] using hs⟩
      rw [h.last hn, dif_self]; rfl
    | some s =>
      obtain ⟨hw, hlt, _⟩ := h.step hn
      obtain ⟨i0, hi0, e0, hne⟩ := direct_go h hd hs hn
      have hl := h.len
      have hp := lawful_len h.lawful
      have hst : stepS st s = st.set i0 (atI pick i0) := by subst e0; simp [stepS]
      have hs' : Straight t pick (stepS st s) := fun i hi => by
        rw [hst]
        by_cases e : i0 = i
        · subst e; exact Or.inl (atI_set (by omega) _)
        · rw [atI_set_ne e]; exact hs i hi
      cases n with
      | zero => omega
      | succ n =>
        have e : ordF t pick (n + 1) st = s :: ordF t pick n (stepS st s) := by simp [ordF, hn]
        obtain ⟨h1, h2⟩ := direct_ord hd n (stepS st s) hw hs' (by omega)
        rw [e]
        refine ⟨?_, fun i => ?_⟩
        · rw [List.length_cons, h1, hst]
          have := dif_set (pick := pick) (st := st) (i := i0) (atI pick i0) (by omega) (by omega)
          rw [dw, dw, if_neg hne, if_pos rfl] at this
          omega
        · cases i with
          | zero => simpa [afterS] using hs
          | succ i => rw [List.take_succ_cons, afterS_cons]; exact h2 i
theorem straight_zeros (t : List WishD) (pick : List Int) : Straight t pick (zeros t.length) := fun _ _ => Or.inr (atI_zeros _ _)
theorem direct_len {t : List WishD} {pick : List Int} (h : lawfulB t pick = true) (hd : directB t pick = true) : (orderL t pick).length = chg pick := by
  rw [← dif_zeros pick t.length (lawful_len h)]
  exact (direct_ord hd _ _ (Way.begin h) (straight_zeros t pick) (Nat.le_refl _)).1
theorem direct_parked {t : List WishD} {pick : List Int} (h : lawfulB t pick = true) (hd : directB t pick = true) (n : Nat) : mostTo t (orderL t pick) n = 0 := by
  refine Nat.le_zero.1 (mostTo_le n fun i _ => ?_)
  have hs : Straight t pick (stAt t (orderL t pick) i) := (direct_ord hd _ _ (Way.begin h) (straight_zeros t pick) (Nat.le_refl _)).2 i
  refine Nat.le_of_eq (List.count_eq_zero.2 fun hm => ?_)
  obtain ⟨j, hj, e⟩ := List.getElem_of_mem hm
  rw [stAt_len] at hj
  have ea : atI (stAt t (orderL t pick) i) j = -1 := by unfold atI; rw [List.getElem?_eq_getElem (by rw [stAt_len]; exact hj), e]; rfl
  have := lawful_at h hj
  rcases hs j hj with a | a <;> omega
/-- the moves of a wish that changes, and of one that does not -/
theorem order_moves {t : List WishD} {pick : List Int} (h : lawfulB t pick = true) {i : Nat} (hi : i < pick.length) :
    (atI pick i = 0 → (movesOf (orderL t pick) i).length = 0) ∧ (atI pick i ≠ 0 → 1 ≤ (movesOf (orderL t pick) i).length ∧ (movesOf (orderL t pick) i).length ≤ 2) := by
  have := (order_spec h).2.2.2.2
  simp only [movesOkB, List.all_eq_true, List.mem_range] at this
  have := this i hi
  unfold okMove at this
  split at this
  · rename_i h0
    refine ⟨fun _ => ?_, fun h => absurd h0 h⟩
    rw [beq_iff_eq] at this; rw [this]; rfl
  · rename_i h0
    refine ⟨fun h => absurd h h0, fun _ => ?_⟩
    simp only [Bool.or_eq_true, beq_iff_eq] at this
    rcases this with e | e <;> rw [e] <;> simp
theorem movesOf_step {l : List StepD} {i k : Nat} {s : StepD} (h : l[k]? = some s) : (movesOf (l.take (k + 1)) i).length = (movesOf (l.take k) i).length + if s.1 = (i : Int) then 1 else 0 := by
  unfold movesOf
  rw [take_step h, List.filter_append, List.map_append, List.length_append]
  by_cases hs : s.1 = (i : Int) <;> simp [hs]
end Go.Proofs.Ytkicielleiafgaa
