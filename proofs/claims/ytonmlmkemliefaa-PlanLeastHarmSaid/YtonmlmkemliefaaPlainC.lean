/- The plain law of certificates: the standard tree is well-formed, and right for every bound that its leaves reach. -/
import Derived.Test.YtonmlmkemliefaaPlainB
namespace Go.Proofs.Ytonmlmkemliefaa
open Go.RowKit

/-! ### the counts of the parents -/
def allKids (c : List NodeD) : List Int := c.flatMap NodeD.kids
theorem allKids_append (a b : List NodeD) : allKids (a ++ b) = allKids a ++ allKids b := by simp [allKids]
theorem allKids_cons (a : NodeD) (b : List NodeD) : allKids (a :: b) = a.kids ++ allKids b := by simp [allKids]
def addC (l : List Int) (ps : List Int) : List Int := ps.mapIdx fun j v => v + (l.count (j : Int) : Nat)
theorem addC_len (l ps : List Int) : (addC l ps).length = ps.length := by simp [addC]
theorem addC_nil (ps : List Int) : addC [] ps = ps := by
  unfold addC
  apply List.ext_getElem? 
  intro i
  simp
theorem addC_add (a b ps : List Int) : addC b (addC a ps) = addC (a ++ b) ps := by
  unfold addC
  apply List.ext_getElem?
  intro i
  simp only [List.getElem?_mapIdx, List.count_append]
  cases ps[i]? <;> simp
  omega
theorem tickKids_ok {n i : Int} : ∀ {l ps : List Int}, (∀ k ∈ l, i < k ∧ k < n) → 0 ≤ i → tickKids n i l ps = some (addC l ps)
  | [], ps, _, _ => by rw [addC_nil]; rfl
  | k :: r, ps, h, hi => by
    have hk := h k List.mem_cons_self
    simp only [tickKids]
    rw [if_neg (by omega), tickKids_ok (fun k' hk' => h k' (List.mem_cons_of_mem _ hk')) hi]
    congr 1
    obtain ⟨m, rfl⟩ : ∃ m : Nat, k = m := ⟨k.toNat, by omega⟩
    have e : ps.set m (ps[m]?.getD 0 + 1) = addC [(m : Int)] ps := by
      unfold addC
      apply List.ext_getElem?
      intro j
      rw [List.getElem?_set, List.getElem?_mapIdx]
      by_cases hj : m = j
      · subst hj
        by_cases hl : m < ps.length
        · simp [hl]
        · simp [hl]
      · have hj' : ¬ (m : Int) = j := by omega
        rw [if_neg hj]
        cases ps[j]? <;> simp [hj']
    rw [Int.toNat_natCast, e, addC_add]
    rfl
theorem tickAll_ok {n : Int} : ∀ {c : List NodeD} {i : Int} {ps : List Int}, (∀ (j : Nat) (x : NodeD), c[j]? = some x → ∀ k ∈ x.kids, i + j < k ∧ k < n) → 0 ≤ i → tickAll n c i ps = some (addC (allKids c) ps)
  | [], i, ps, _, _ => by simp [tickAll, allKids, addC_nil]
  | x :: r, i, ps, h, hi => by
    simp only [tickAll]
    rw [tickKids_ok (fun k hk => by have := h 0 x rfl k hk; omega) hi]
    simp only
    rw [tickAll_ok (fun j y hy k hk => by have := h (j + 1) y (by simpa using hy) k hk; omega) (by omega), addC_add, allKids_cons]
theorem formed_of {c : List NodeD} (h0 : 0 < c.length) (h1 : c.length ≤ 65536) (h2 : ∀ (j : Nat) (x : NodeD), c[j]? = some x → ∀ k ∈ x.kids, (j : Int) < k ∧ k < c.length)
    (h3 : ∀ j : Nat, 1 ≤ j → j < c.length → (allKids c).count (j : Int) = 1) : formedB c = true := by
  unfold formedB
  rw [if_neg (by omega), tickAll_ok (fun j x hx k hk => by have := h2 j x hx k hk; omega) (Int.le_refl 0)]
  simp only [tickOk, Bool.not_eq_true', List.any_eq_false]
  intro v hv
  rw [List.mem_iff_getElem?] at hv
  obtain ⟨j, hj⟩ := hv
  rw [List.getElem?_drop] at hj
  have hlt := (List.getElem?_eq_some_iff.1 hj).1
  rw [addC_len, zerosL_len] at hlt
  unfold addC at hj
  rw [List.getElem?_mapIdx, show (zerosL c.length)[1 + j]? = some 0 by simp [zerosL, hlt]] at hj
  have := h3 (1 + j) (by omega) hlt
  simp only [Option.map_some, this, Option.some.injEq] at hj
  subst hj
  decide

/-! ### the standard tree is well-formed -/
theorem ite_out {c : Prop} [Decidable c] {x : Nat} (h : x = if c then 1 else 0) : (c ∧ x = 1) ∨ (¬ c ∧ x = 0) := by
  split at h
  · exact Or.inl ⟨by assumption, h⟩
  · exact Or.inr ⟨by assumption, h⟩
theorem ite_in {c : Prop} [Decidable c] {x : Nat} (h : (c ∧ x = 1) ∨ (¬ c ∧ x = 0)) : x = if c then 1 else 0 := by
  rcases h with ⟨h1, h2⟩ | ⟨h1, h2⟩
  · rw [if_pos h1]; exact h2
  · rw [if_neg h1]; exact h2
theorem kidsG_count {f : Int → OptD → Nat → Res} (hf : ∀ i o N, ∀ j : Int, (allKids (f i o N).nodes).count j = if (N : Int) + 1 ≤ j ∧ j < N + (f i o N).nodes.length then 1 else 0) (hp : ∀ i o N, 0 < (f i o N).nodes.length) :
    ∀ (l : List OptD) (i : Int) (N : Nat) (j : Int), (kidsG f l i N).kids.count j + (allKids (kidsG f l i N).nodes).count j = if (N : Int) ≤ j ∧ j < N + (kidsG f l i N).nodes.length then 1 else 0
  | [], i, N, j => ite_in (by simp [kidsG, allKids])
  | o :: r, i, N, j => by
    have h1 := ite_out (hf i o N j)
    have h2 := ite_out (kidsG_count hf hp r (i + 1) (N + (f i o N).nodes.length) j)
    have h3 := hp i o N
    refine ite_in ?_
    simp only [kidsG, allKids_append, List.count_append, List.length_append]
    generalize (allKids (f i o N).nodes).count j = X at *
    generalize (f i o N).nodes.length = m at *
    generalize (kidsG f r (i + 1) (N + m)).nodes.length = q at *
    generalize (allKids (kidsG f r (i + 1) (N + m)).nodes).count j = B at *
    by_cases e : (N : Int) = j
    · rw [← e, List.count_cons_self]
      rw [← e] at h1 h2
      generalize (kidsG f r (i + 1) (N + m)).kids.count (N : Int) = A at *
      omega
    · rw [List.count_cons_of_ne e]
      generalize (kidsG f r (i + 1) (N + m)).kids.count j = A at *
      omega
theorem growL_count (t : List WishD) (b : Int) : ∀ (l : List WishD) (pre : List Int) (harm : Int) (N : Nat) (j : Int),
    (allKids (growL t b l pre harm N).nodes).count j = if (N : Int) + 1 ≤ j ∧ j < N + (growL t b l pre harm N).nodes.length then 1 else 0
  | [], pre, harm, N, j => by
    refine ite_in ?_
    simp only [growL]
    (repeat' split) <;> exact Or.inr ⟨by dsimp only [List.length_cons, List.length_nil]; omega, rfl⟩
  | x :: r, pre, harm, N, j => by
    refine ite_in ?_
    simp only [growL]
    split
    · exact Or.inr ⟨by dsimp only [List.length_cons, List.length_nil]; omega, rfl⟩
    · split
      · exact Or.inr ⟨by dsimp only [List.length_cons, List.length_nil]; omega, rfl⟩
      · have := ite_out (kidsG_count (f := fun i o N' => growL t b r (pre ++ [i]) (harm + o.harm) N') (fun i o N' j => growL_count t b r _ _ N' j) (fun i o N' => growL_pos t b r _ _ N') x.opts 0 (N + 1) j)
        simp only [allKids_cons, List.count_append, List.length_cons] at this ⊢
        omega
theorem kidsG_kids {f : Int → OptD → Nat → Res} (hp : ∀ i o N, 0 < (f i o N).nodes.length) : ∀ (l : List OptD) (i : Int) (N : Nat), ∀ k ∈ (kidsG f l i N).kids, (N : Int) ≤ k ∧ k < N + (kidsG f l i N).nodes.length
  | [], i, N, k, hk => by cases hk
  | o :: r, i, N, k, hk => by
    have h3 := hp i o N
    simp only [kidsG, List.length_append] at hk ⊢
    rcases List.mem_cons.1 hk with rfl | hk
    · omega
    · have := kidsG_kids hp r (i + 1) _ k hk
      omega
theorem kidsG_in {f : Int → OptD → Nat → Res} (hf : ∀ i o N, ∀ (q : Nat) (x : NodeD), (f i o N).nodes[q]? = some x → ∀ k ∈ x.kids, (N : Int) + q < k ∧ k < N + (f i o N).nodes.length) :
    ∀ (l : List OptD) (i : Int) (N : Nat) (q : Nat) (x : NodeD), (kidsG f l i N).nodes[q]? = some x → ∀ k ∈ x.kids, (N : Int) + q < k ∧ k < N + (kidsG f l i N).nodes.length
  | [], i, N, q, x, hx, k, hk => by simp [kidsG] at hx
  | o :: r, i, N, q, x, hx, k, hk => by
    simp only [kidsG, List.length_append] at hx ⊢
    rw [List.getElem?_append] at hx
    split at hx
    · have := hf i o N q x hx k hk
      omega
    · have := kidsG_in hf r (i + 1) _ _ x hx k hk
      omega
theorem growL_in (t : List WishD) (b : Int) : ∀ (l : List WishD) (pre : List Int) (harm : Int) (N : Nat) (q : Nat) (x : NodeD),
    (growL t b l pre harm N).nodes[q]? = some x → ∀ k ∈ x.kids, (N : Int) + q < k ∧ k < N + (growL t b l pre harm N).nodes.length
  | [], pre, harm, N, q, x, hx, k, hk => by
    simp only [growL] at hx
    have hm := List.mem_of_getElem? hx
    (repeat' split at hm) <;> (simp [leafN] at hm; subst hm; cases hk)
  | y :: r, pre, harm, N, q, x, hx, k, hk => by
    simp only [growL] at hx ⊢
    split at hx
    · have hm := List.mem_of_getElem? hx
      simp at hm; subst hm; cases hk
    · split at hx
      · have hm := List.mem_of_getElem? hx
        simp [leafN] at hm; subst hm; cases hk
      · rename_i h1 h2
        rw [if_neg h1, if_neg h2]
        simp only [List.length_cons]
        cases q with
        | zero =>
          simp at hx
          subst hx
          have := kidsG_kids (f := fun i o N' => growL t b r (pre ++ [i]) (harm + o.harm) N') (fun i o N' => growL_pos t b r _ _ N') y.opts 0 (N + 1) k hk
          omega
        | succ q =>
          have := kidsG_in (f := fun i o N' => growL t b r (pre ++ [i]) (harm + o.harm) N') (fun i o N' q x hx => growL_in t b r _ _ N' q x hx) y.opts 0 (N + 1) q x (by simpa using hx) k hk
          omega
theorem growL_formed (t : List WishD) (b : Int) (h : treeMax t ≤ 65536) : formedB (growL t b t [] 0 0).nodes = true := by
  refine formed_of (growL_pos t b t [] 0 0) (Nat.le_trans (growL_len t b t [] 0 0) h) (fun j x hx k hk => ?_) (fun j h1 h2 => ?_)
  · have := growL_in t b t [] 0 0 j x hx k hk
    omega
  · rw [growL_count, if_pos (by omega)]

/-! ### and right -/
theorem lastClash_spec {t : List WishD} {pre : List Int} (h : 0 ≤ lastClash t pre) : ∃ i : Nat, lastClash t pre = i ∧ i + 1 < pre.length ∧ clashAt t pre i (pre.length - 1) = true := by
  unfold lastClash at h ⊢
  split at h
  · omega
  · rename_i h0
    rw [if_neg h0]
    unfold earlierI findI at h ⊢
    cases hf : (List.range (pre.length - 1)).findIdx? fun i => clashAt t pre i (pre.length - 1) with
    | none => rw [hf] at h; simp at h
    | some i =>
      rw [List.findIdx?_eq_some_iff_getElem] at hf
      obtain ⟨h1, h2, _⟩ := hf
      refine ⟨i, rfl, by simp at h1; omega, ?_⟩
      simpa using h2
def decOf (t : List WishD) (pre : List Int) : List Int := pre ++ List.replicate (t.length - pre.length) (-1)
theorem decOf_set {t : List WishD} {pre : List Int} (h : pre.length < t.length) (i : Int) : (decOf t pre).set pre.length i = decOf t (pre ++ [i]) := by
  unfold decOf
  obtain ⟨k, hk⟩ : ∃ k, t.length - pre.length = k + 1 := ⟨t.length - pre.length - 1, by omega⟩
  rw [hk, List.set_append_right _ _ (Nat.le_refl _), List.length_append, show t.length - (pre.length + [i].length) = k by simp; omega]
  simp [List.replicate_succ]
theorem decOf_at {t : List WishD} {pre : List Int} {j : Nat} (h : j < pre.length) : decAt (decOf t pre) j = pre[j]?.getD 0 := by
  simp [decAt, decOf, List.getElem?_append_left h]
theorem optOf_dec {t : List WishD} {pre : List Int} {j : Nat} (h : j < pre.length) : optOf t (decOf t pre) j = optOf t pre j := by
  simp [optOf, decOf, List.getElem?_append_left h]
theorem clashAt_dec {t : List WishD} {pre : List Int} {i j : Nat} (hi : i < pre.length) (hj : j < pre.length) : clashAt t (decOf t pre) i j = clashAt t pre i j := by
  simp [clashAt, optOf_dec hi, optOf_dec hj]
/-- a part of the certificate, from N on -/
def Part (c : List NodeD) (N : Nat) (l : List NodeD) : Prop := ∀ q x, l[q]? = some x → c[N + q]? = some x
theorem Part.left {c : List NodeD} {N : Nat} {a b : List NodeD} (h : Part c N (a ++ b)) : Part c N a := fun q x hx => h q x (by rw [List.getElem?_append_left (List.getElem?_eq_some_iff.1 hx).1]; exact hx)
theorem Part.right {c : List NodeD} {N : Nat} {a b : List NodeD} (h : Part c N (a ++ b)) : Part c (N + a.length) b := fun q x hx => by
  have := h (a.length + q) x (by rw [List.getElem?_append_right (by omega)]; simpa using hx)
  rw [Nat.add_assoc]
  exact this
theorem kidsR_grow {c : List NodeD} {g : Int → Int → OptD → Bool} {f : Int → OptD → Nat → Res} {b : Int} {M : Nat} (hg : ∀ i o N, 0 ≤ i → (f i o N).nodes.length ≤ M → Part c N (f i o N).nodes → (∀ e ∈ (f i o N).ests, b ≤ e) → (∀ e ∈ (f i o N).opens, b ≤ e.2) → g i N o = true) :
    ∀ (l : List OptD) (i : Int) (N : Nat), 0 ≤ i → (kidsG f l i N).nodes.length ≤ M → Part c N (kidsG f l i N).nodes → (∀ e ∈ (kidsG f l i N).ests, b ≤ e) → (∀ e ∈ (kidsG f l i N).opens, b ≤ e.2) → kidsR g i (kidsG f l i N).kids l = true
  | [], i, N, _, _, _, _, _ => rfl
  | o :: r, i, N, h0, hM, hp, he, ho => by
    simp only [kidsG, List.length_append] at hM hp he ho ⊢
    simp only [kidsR, Bool.and_eq_true]
    exact ⟨hg i o N h0 (by omega) hp.left (fun e h => he e (List.mem_append_left _ h)) (fun e h => ho e (List.mem_append_left _ h)),
      kidsR_grow hg r (i + 1) _ (by omega) (by omega) hp.right (fun e h => he e (List.mem_append_right _ h)) (fun e h => ho e (List.mem_append_right _ h))⟩
theorem right_grow (t : List WishD) (b B : Int) (c : List NodeD) : ∀ (l : List WishD) (pre : List Int) (harm : Int) (N : Nat) (f : Nat), (growL t B l pre harm N).nodes.length ≤ f → t.drop pre.length = l → pre.length + l.length = t.length → (∀ k ∈ pre, 0 ≤ k) →
    Part c N (growL t B l pre harm N).nodes → (∀ e ∈ (growL t B l pre harm N).ests, b ≤ e) → (∀ e ∈ (growL t B l pre harm N).opens, b ≤ e.2) → rightP t b c f (decOf t pre) (leastSum l) N harm = true
  | l, pre, harm, N, 0, hf, _, _, _, _, _, _ => by have := growL_pos t B l pre harm N; omega
  | l, pre, harm, N, f + 1, hf, hd, hl, hpre, hp, he, ho => by
    have clash : ∀ hc : 0 ≤ lastClash t pre, c[N]? = some ⟨-1, [], lastClash t pre, (pre.length : Int) - 1⟩ → rightP t b c (f + 1) (decOf t pre) (leastSum l) N harm = true := by
      intro hc hn
      obtain ⟨i, e, h1, h2⟩ := lastClash_spec hc
      simp only [rightP, hn]
      rw [if_pos trivial]
      have e2 : (pre.length : Int) - 1 = ((pre.length - 1 : Nat) : Int) := by omega
      simp only [List.length_nil, beq_self_eq_true, Bool.true_and, closedB, e, e2]
      have i1 : idxB (i : Int) t.length = true := idxB_of_lt (by omega)
      have i2 : idxB ((pre.length - 1 : Nat) : Int) t.length = true := idxB_of_lt (by omega)
      rw [if_neg (by omega), if_neg (by rw [i1, i2]; simp; omega)]
      have d1 : 0 ≤ decAt (decOf t pre) i := by
        rw [decOf_at (by omega), List.getElem?_eq_getElem (by omega)]
        exact hpre _ (List.getElem_mem _)
      have d2 : 0 ≤ decAt (decOf t pre) ((pre.length - 1 : Nat) : Int) := by
        rw [decOf_at (by omega), List.getElem?_eq_getElem (by omega)]
        exact hpre _ (List.getElem_mem _)
      simp only [Int.toNat_natCast, d1, d2, decide_true, Bool.true_and]
      rw [clashAt_dec (by omega) (by omega)]
      exact h2
    have leaf : b ≤ harm + leastSum l → c[N]? = some leafN → rightP t b c (f + 1) (decOf t pre) (leastSum l) N harm = true := by
      intro hb hn
      simp only [rightP, hn, leafN]
      simp [closedB, hb]
    cases l with
    | nil =>
      simp only [growL] at hp he ho
      split at hp
      · rename_i hc
        exact clash hc (by simpa using hp 0 _ rfl)
      · rename_i hc
        split at hp
        · rename_i hb
          rw [if_neg hc, if_pos hb] at he
          exact leaf (by have := he harm (by simp); simp [leastSum]; exact this) (by simpa using hp 0 _ rfl)
        · rename_i hb
          rw [if_neg hc, if_neg hb] at ho
          exact leaf (by have := ho (pre, harm) (by simp); simp [leastSum]; exact this) (by simpa using hp 0 _ rfl)
    | cons x r =>
      simp only [growL] at hp he ho
      split at hp
      · rename_i hc
        exact clash hc (by simpa using hp 0 _ rfl)
      · rename_i hc
        split at hp
        · rename_i hb
          rw [if_neg hc, if_pos hb] at he
          exact leaf (he _ (by simp)) (by simpa using hp 0 _ rfl)
        · rename_i hb
          rw [if_neg hc, if_neg hb] at he ho
          have hn := hp 0 _ rfl
          rw [Nat.add_zero] at hn
          simp only [growL] at hf
          rw [if_neg hc, if_neg hb] at hf
          simp only [List.length_cons] at hl hf
          have hlt : pre.length < t.length := by omega
          have hx : t[pre.length]? = some x := by
            have := congrArg (fun l => l[0]?) hd
            simpa using this
          have hdn : t.drop (pre.length + 1) = r := by
            have := congrArg List.tail hd
            simpa using this
          simp only [rightP, hn]
          rw [if_neg (by omega), idxB_of_lt hlt]
          simp only [Int.toNat_natCast, hx]
          rw [if_neg (by simp)]
          have hdec : decAt (decOf t pre) (pre.length : Int) = -1 := by
            obtain ⟨k, hk⟩ : ∃ k, t.length - pre.length = k + 1 := ⟨t.length - pre.length - 1, by omega⟩
            simp [decAt, decOf, hk, List.replicate_succ]
          rw [if_neg (by rw [hdec, kidsG_kids_len]; simp)]
          refine kidsR_grow (c := c) (b := b) (M := f) (fun i o N' hi0 hM hpart he' ho' => ?_) x.opts 0 (N + 1) (Int.le_refl _) (by omega) (fun q y hy => ?_) he ho
          · have h1 := right_grow t b B c r (pre ++ [i]) (harm + o.harm) N' f hM (by rw [List.length_append]; exact hdn) (by simp; omega) (fun k hk => by
              rcases List.mem_append.1 hk with h | h
              · exact hpre k h
              · simp at h; omega) hpart he' ho'
            rw [decOf_set hlt, show leastSum (x :: r) - leastB x = leastSum r by simp [leastSum], Int.toNat_natCast]
            exact h1
          · have := hp (q + 1) y (by simpa using hy)
            rw [show N + (q + 1) = N + 1 + q by omega] at this
            exact this
/-- the certificate of the best plan is accepted for its harm and for all smaller bounds -/
theorem check_grow {t : List WishD} {b B : Int} (hv : validT t = 0) (hm : treeMax t ≤ 65536) (he : ∀ e ∈ (growL t B t [] 0 0).ests, b ≤ e) (ho : ∀ e ∈ (growL t B t [] 0 0).opens, b ≤ e.2) :
    checkT t b (growL t B t [] 0 0).nodes = 0 := by
  unfold checkT
  rw [if_neg (by simp [hv]), if_neg (by rw [growL_formed t B hm]; simp)]
  have h := right_grow t b B (growL t B t [] 0 0).nodes t [] 0 0 _ (Nat.le_refl _) rfl (by simp) (by simp) (fun q x hx => by rw [Nat.zero_add]; exact hx) he ho
  simp only [decOf, List.nil_append, List.length_nil, Nat.sub_zero] at h
  rw [if_pos h]
theorem cert_small {t : List WishD} {p : List Int} {h b : Int} (hv : validT t = 0) (hm : treeMax t ≤ 65536) (hb : bestOf t = some (p, h)) (hle : b ≤ h) : checkT t b (growL t h t [] 0 0).nodes = 0 := by
  refine check_grow hv hm (fun e he => ?_) (fun e he => ?_)
  · have := (growL_ests t h t (harms_of hv) [] 0 0 e he).1
    omega
  · rw [opens_lawful, List.mem_filter] at he
    have h1 := (mem_lawfulL hv).1 he.1
    have h2 := (bestOf_spec hv hb).2.2 e.1 h1.1
    have h3 := h1.2
    simp at he
    omega
theorem cert_great {t : List WishD} {p : List Int} {h b B : Int} (hv : validT t = 0) (hm : treeMax t ≤ 65536) (hb : bestOf t = some (p, h)) (hgt : h < b) : checkT t b (growL t B t [] 0 0).nodes = 11 := by
  have h1 := bestOf_spec hv hb
  have h2 : checkT t b (growL t B t [] 0 0).nodes ≠ 0 := fun h0 => by
    have := check_sound h0 h1.1
    omega
  unfold checkT at h2 ⊢
  rw [if_neg (by simp [hv]), if_neg (by rw [growL_formed t B hm]; simp)] at h2 ⊢
  split at h2
  · exact absurd rfl h2
  · rename_i hr
    rw [if_neg hr]
theorem kidsG_opts {f : Int → OptD → Nat → Res} {m : Nat} (hf : ∀ i o N, ∀ n ∈ (f i o N).nodes, n.kids.length ≤ m) : ∀ (l : List OptD) (i : Int) (N : Nat), ∀ n ∈ (kidsG f l i N).nodes, n.kids.length ≤ m
  | [], _, _, n, hn => by cases hn
  | o :: r, i, N, n, hn => by
    simp only [kidsG, List.mem_append] at hn
    rcases hn with h | h
    · exact hf i o N n h
    · exact kidsG_opts hf r _ _ n h
theorem growL_kids (t : List WishD) (b : Int) (m : Nat) : ∀ (l : List WishD), (∀ x ∈ l, x.opts.length ≤ m) → ∀ (pre : List Int) (harm : Int) (N : Nat), ∀ n ∈ (growL t b l pre harm N).nodes, n.kids.length ≤ m
  | [], _, pre, harm, N, n, hn => by
    simp only [growL] at hn
    (repeat' split at hn) <;> (simp [leafN] at hn; subst hn; simp)
  | x :: r, h, pre, harm, N, n, hn => by
    simp only [growL] at hn
    split at hn
    · simp at hn; subst hn; simp
    · split at hn
      · simp [leafN] at hn; subst hn; simp
      · rcases List.mem_cons.1 hn with rfl | hn
        · simp only [kidsG_kids_len]; exact h x List.mem_cons_self
        · exact kidsG_opts (f := fun i o N' => growL t b r (pre ++ [i]) (harm + o.harm) N') (fun i o N' n hn => growL_kids t b m r (fun y hy => h y (List.mem_cons_of_mem _ hy)) _ _ N' n hn) x.opts 0 (N + 1) n hn
end Go.Proofs.Ytonmlmkemliefaa
