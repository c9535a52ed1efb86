/- Merged parts: KP, KQ. -/
import Derived.Test.YtjglidlmpjmjeaaGreatDoorKE
import Derived.Test.YtjglidlmpjmjeaaGreatDoorPK
/- The plain law of standing: what the search finds; selections that stand; the least ones that do not. -/
namespace Go.Proofs.YtjglidlmpjmjeaaGreatDoor
open Go.RowKit List

/-! ### the search -/
theorem standO_spec {f : Int → Nat → Bool × Nat} {h : Int → OptD → List (List Int × Int)} {P : List Int × Int → Prop} {m : Nat}
  (hf : ∀ i o v, v + m ≤ 65536 → (f i v).2 ≤ v + m ∧ ((f i v).1 = true ↔ ∃ c ∈ h i o, P c)) :
  ∀ (l : List OptD) (i : Int) (v : Nat), v + l.length * (m + 1) ≤ 65536 → (standO f l i v).2 ≤ v + l.length * (m + 1) ∧ ((standO f l i v).1 = true ↔ ∃ c ∈ kidsC h l i, P c)
 | [], i, v, _ => by simp [standO, kidsC]
 | o :: r, i, v, hv => by
  rw [List.length_cons, Nat.add_mul, Nat.one_mul] at hv ⊢
  obtain ⟨h1, h2⟩ := hf i o (v + 1) (by omega)
  obtain ⟨h3, h4⟩ := standO_spec hf r (i + 1) (f i (v + 1)).2 (by omega)
  simp only [standO, kidsC]
  rw [if_neg (by omega)]
  by_cases hc : (f i (v + 1)).1 = true
  ·rw [if_pos hc]
   refine ⟨by show (f i (v + 1)).2 ≤ _; omega, ?_⟩
   obtain ⟨c, hm, hp⟩ := h2.1 hc
   exact ⟨fun _ => ⟨c, List.mem_append_left _ hm, hp⟩, fun _ => rfl⟩
  ·rw [if_neg hc]
   refine ⟨by omega, h4.trans ⟨?_, ?_⟩⟩
   ·rintro ⟨c, hm, hp⟩; exact ⟨c, List.mem_append_right _ hm, hp⟩
   ·rintro ⟨c, hm, hp⟩
    rcases List.mem_append.1 hm with hm | hm
    ·exact absurd (h2.2 ⟨c, hm, hp⟩) hc
    ·exact ⟨c, hm, hp⟩
theorem standF_spec (t : List WishD) : ∀ (r : List WishD) (pre : List Int) (harm : Int) (v : Nat), v + treeMax r ≤ 65537 →
  (standF t r pre v).2 + 1 ≤ v + treeMax r ∧ ((standF t r pre v).1 = true ↔ ∃ c ∈ choicesL r pre harm, okFrom t pre.length c.1 = true)
 | [], pre, harm, v, hv => by
  simp only [standF, treeMax, choicesL]
  refine ⟨by omega, ⟨fun _ => ⟨_, List.mem_singleton.2 rfl, ?_⟩, fun _ => trivial⟩⟩
  simp only [okFrom, List.all_eq_true, Bool.or_eq_true, decide_eq_true_eq]
  intro d hd
  exact Or.inl (List.mem_range.1 hd)
 | x :: r, pre, harm, v, hv => by
  rw [standF_cons]
  simp only [treeMax] at hv ⊢
  have tp := treeMax_pos r
  have key := standO_spec (f := standG t r pre) (h := fun i o => choicesL r (pre ++ [i]) (harm + o.harm)) (P := fun c => okFrom t pre.length c.1 = true) (m := treeMax r - 1) (fun i o v hv => by
   unfold standG
   have hl : (pre ++ [i]).length - 1 = pre.length := by simp
   split
   ·rename_i hc
    refine ⟨by show v ≤ _; omega, ⟨fun h => (by cases h), ?_⟩⟩
    rintro ⟨c, hm, hp⟩
    obtain ⟨s, e, _⟩ := choicesL_pre hm
    have := okFrom_clash (s := s) (b := c.2 + 1) (h := c.2) hc
    rw [hl, ← e] at this
    simp only [goodC, hp, Bool.true_and, decide_eq_false_iff_not] at this
    omega
   ·rename_i hc
    obtain ⟨h1, h2⟩ := standF_spec t r (pre ++ [i]) (harm + o.harm) v (by omega)
    have step : ∀ c, c ∈ choicesL r (pre ++ [i]) (harm + o.harm) → okFrom t pre.length c.1 = okFrom t (pre ++ [i]).length c.1 := fun c hm => by
     obtain ⟨s, e, _⟩ := choicesL_pre hm
     have := okFrom_step (t := t) (p := c.1) ⟨s, e⟩ hc
     rwa [hl] at this
    refine ⟨by omega, h2.trans ⟨?_, ?_⟩⟩
    ·rintro ⟨c, hm, hp⟩; exact ⟨c, hm, by rw [step c hm]; exact hp⟩
    ·rintro ⟨c, hm, hp⟩; exact ⟨c, hm, by rw [← step c hm]; exact hp⟩) x.opts 0 v (by rw [Nat.sub_add_cancel tp]; omega)
  rw [Nat.sub_add_cancel tp] at key
  exact ⟨by have := key.1; omega, key.2⟩
def standB (s : List WishD) : Bool := !(lawfulL s).isEmpty
theorem standB_ne {s : List WishD} : standB s = true ↔ lawfulL s ≠ [] := by unfold standB; cases lawfulL s <;> simp
theorem stands_is {t : List WishD} {l : List Int} (h : treeMax (subT t l) ≤ 65536) : standsT t l = (standB (subT t l), 0) := by
 obtain ⟨h1, h2⟩ := standF_spec (subT t l) (subT t l) [] 0 0 (by omega)
 unfold standsT standsS
 rw [if_neg (by omega)]
 have e : (standF (subT t l) (subT t l) [] 0).1 = standB (subT t l) := by
  rw [Bool.eq_iff_iff, h2, standB_ne]
  constructor
  ·rintro ⟨c, hm, hp⟩ hn
   have : c ∈ lawfulL (subT t l) := List.mem_filter.2 ⟨hm, hp⟩
   rw [hn] at this
   cases this
  ·intro hn
   obtain ⟨c, hc⟩ := List.exists_mem_of_ne_nil _ hn
   obtain ⟨hm, hp⟩ := List.mem_filter.1 hc
   exact ⟨c, hm, hp⟩
 rw [e]

/-! ### what stands, without places -/
def StandP (s : List WishD) : Prop := ∃ q : List (WishD × OptD), q.map Prod.fst = s ∧ (∀ r ∈ q, r.2 ∈ r.1.opts) ∧ q.Pairwise fun a b => clashB a.1 b.1 a.2 b.2 = false
theorem choice_len : ∀ {s : List WishD} {p : List Int}, choiceB s p = true → p.length = s.length
 | [], [], _ => rfl
 | [], _ :: _, h => by simp [choiceB] at h
 | _ :: _, [], h => by simp [choiceB] at h
 | _ :: s, _ :: p, h => by
  simp only [choiceB, Bool.and_eq_true] at h
  simp [choice_len h.2]
def pairsOf : List WishD → List Int → List (WishD × OptD)
 | x :: s, k :: p => (x, x.opts[k.toNat]?.getD default) :: pairsOf s p
 | _, _ => []
theorem pairs_fst : ∀ {s : List WishD} {p : List Int}, choiceB s p = true → (pairsOf s p).map Prod.fst = s ∧ (∀ r ∈ pairsOf s p, r.2 ∈ r.1.opts) ∧ ∀ j (r : WishD × OptD), (pairsOf s p)[j]? = some r → optOf s p j = some r
 | [], [], _ => ⟨rfl, fun _ h => by (cases h), fun j r h => by simp [pairsOf] at h⟩
 | [], _ :: _, h => by simp [choiceB] at h
 | _ :: _, [], h => by simp [choiceB] at h
 | x :: s, k :: p, h => by
  simp only [choiceB, Bool.and_eq_true] at h
  obtain ⟨h1, h2, h3⟩ := pairs_fst h.2
  obtain ⟨n, rfl, hn⟩ := idxB_nat h.1
  have e : x.opts[(n : Int).toNat]? = some x.opts[n] := by rw [Int.toNat_natCast]; exact List.getElem?_eq_getElem hn
  refine ⟨by simp only [pairsOf, List.map_cons, h1], fun r hr => ?_, fun j r hr => ?_⟩
  ·simp only [pairsOf, List.mem_cons] at hr
   rcases hr with rfl | hr
   ·show (x.opts[(n : Int).toNat]?.getD default) ∈ x.opts
    rw [e]
    exact List.getElem_mem hn
   ·exact h2 r hr
  ·cases j with
   | zero =>
    simp only [pairsOf, List.getElem?_cons_zero, Option.some.injEq, e, Option.getD_some] at hr
    subst hr
    have e' : x.opts[n]? = some x.opts[n] := List.getElem?_eq_getElem hn
    simp [optOf, e']
   | succ j =>
    simp only [pairsOf, List.getElem?_cons_succ] at hr
    have := h3 j r hr
    simpa [optOf] using this
theorem pairs_of : ∀ (q : List (WishD × OptD)), (∀ r ∈ q, r.2 ∈ r.1.opts) → ∃ p, choiceB (q.map Prod.fst) p = true ∧ ∀ j (r : WishD × OptD), q[j]? = some r → optOf (q.map Prod.fst) p j = some r
 | [], _ => ⟨[], rfl, fun j r h => by simp at h⟩
 | (x, o) :: q, h => by
  obtain ⟨p, h1, h2⟩ := pairs_of q fun r hr => h r (List.mem_cons_of_mem _ hr)
  obtain ⟨n, hn, e⟩ := List.mem_iff_getElem.1 (h (x, o) List.mem_cons_self)
  refine ⟨(n : Int) :: p, ?_, fun j r hr => ?_⟩
  ·simp only [List.map_cons, choiceB, Bool.and_eq_true]
   exact ⟨idxB_of_lt hn, h1⟩
  ·cases j with
   | zero =>
    simp only [List.getElem?_cons_zero, Option.some.injEq] at hr
    subst hr
    have e' : x.opts[n]? = some o := by rw [List.getElem?_eq_getElem hn]; exact congrArg some e
    simp [optOf, e']
   | succ j =>
    simp only [List.getElem?_cons_succ] at hr
    simpa [optOf] using h2 j r hr
theorem stand_choice {s : List WishD} : StandP s ↔ ∃ p, choiceB s p = true ∧ freeB s p = true := by
 constructor
 ·rintro ⟨q, rfl, h2, h3⟩
  obtain ⟨p, h4, h5⟩ := pairs_of q h2
  refine ⟨p, h4, ?_⟩
  have hl := choice_len h4
  rw [List.length_map] at hl
  unfold freeB
  rw [List.all_eq_true]
  intro d hd
  have hd := List.mem_range.1 hd
  have hany : (decide (0 ≤ earlierI (q.map Prod.fst) p d)) = false := by
   unfold earlierI
   rw [findI_ge, List.any_eq_false]
   intro i hi
   have hi := List.mem_range.1 hi
   have g1 := h5 i q[i] (List.getElem?_eq_getElem (by omega))
   have g2 := h5 d q[d] (List.getElem?_eq_getElem (by omega))
   have := (List.pairwise_iff_getElem.1 h3) i d (by omega) (by omega) hi
   simp only [clashAt, g1, g2]
   simp [this]
  rw [hany]; rfl
 ·rintro ⟨p, h1, h2⟩
  obtain ⟨h3, h4, h5⟩ := pairs_fst h1
  refine ⟨pairsOf s p, h3, h4, List.pairwise_iff_getElem.2 fun i j hi hj hij => ?_⟩
  have hl := choice_len h1
  have hl2 : (pairsOf s p).length = s.length := by rw [← h3, List.length_map, h3]
  have := freeB_no h2 (i := i) (d := j) (by omega) (by omega) (by omega)
  have g1 := h5 i _ (List.getElem?_eq_getElem hi)
  have g2 := h5 j _ (List.getElem?_eq_getElem hj)
  simpa only [clashAt, g1, g2] using this
theorem standB_iff {s : List WishD} : standB s = true ↔ StandP s := by
 rw [standB_ne, stand_choice]
 constructor
 ·intro hn
  obtain ⟨c, hc⟩ := List.exists_mem_of_ne_nil _ hn
  obtain ⟨hm, hp⟩ := List.mem_filter.1 hc
  obtain ⟨p, h1, h2, _⟩ := mem_choicesL.1 hm
  simp only [List.nil_append] at h1
  rw [h1, okFrom_free] at hp
  exact ⟨p, h2, hp⟩
 ·rintro ⟨p, h1, h2⟩ hn
  have : (p, sumH s p) ∈ lawfulL s := List.mem_filter.2 ⟨mem_choicesL.2 ⟨p, by simp, h1, by simp⟩, by rw [okFrom_free]; exact h2⟩
  rw [hn] at this
  cases this
theorem StandP.sub {s s' : List WishD} (h : StandP s) (hs : s' <+ s) : StandP s' := by
 obtain ⟨q, rfl, h2, h3⟩ := h
 obtain ⟨q', h4, rfl⟩ := List.sublist_map_iff.1 hs
 exact ⟨q', rfl, fun r hr => h2 r (h4.subset hr), h3.sublist h4⟩
theorem standB_sub {s s' : List WishD} (h : standB s = true) (hs : s' <+ s) : standB s' = true := standB_iff.2 ((standB_iff.1 h).sub hs)
theorem standB_nil : standB [] = true := standB_iff.2 ⟨[], rfl, fun _ h => (by cases h), List.Pairwise.nil⟩
theorem standB_one {x : WishD} (h : 0 < x.opts.length) : standB [x] = true :=
 standB_iff.2 ⟨[(x, x.opts[0])], rfl, fun r hr => by (rw [List.mem_singleton.1 hr]; exact List.getElem_mem h), List.pairwise_singleton _ _⟩

/-! ### sizes -/
def geo (m : Nat) : Nat → Nat
 | 0 => 1
 | n + 1 => 1 + m * geo m n
theorem geo_mono {m : Nat} (hm : 1 ≤ m) : ∀ {a b : Nat}, a ≤ b → geo m a ≤ geo m b
 | 0, 0, _ => Nat.le_refl _
 | 0, b + 1, _ => by
  have h1 : 1 ≤ geo m b := geo_mono hm (a := 0) (Nat.zero_le b)
  simp only [geo]; omega
 | a + 1, 0, h => by omega
 | a + 1, b + 1, h => by
  have := Nat.mul_le_mul_left m (geo_mono hm (a := a) (b := b) (by omega))
  simp only [geo]; omega
theorem treeMax_geo {m : Nat} : ∀ {s : List WishD}, (∀ x ∈ s, x.opts.length ≤ m) → treeMax s ≤ geo m s.length
 | [], _ => Nat.le_refl _
 | x :: r, h => by
  have h1 := treeMax_geo (s := r) fun y hy => h y (List.mem_cons_of_mem _ hy)
  have h2 := h x List.mem_cons_self
  have := Nat.mul_le_mul h2 h1
  simp only [treeMax, List.length_cons, geo]
  omega
structure SmallT (t : List WishD) : Prop where
 len : t.length ≤ 6
 opts : ∀ x ∈ t, 0 < x.opts.length ∧ x.opts.length ≤ 5
theorem subT_mem {t : List WishD} {l : List Int} (hi : ∀ x ∈ l, idxB x t.length = true) {y : WishD} (hy : y ∈ subT t l) : y ∈ t := by
 obtain ⟨x, hx, rfl⟩ := List.mem_map.1 hy
 obtain ⟨n, rfl, hn⟩ := idxB_nat (hi x hx)
 rw [Int.toNat_natCast, List.getElem?_eq_getElem hn, Option.getD_some]
 exact List.getElem_mem hn
theorem SmallT.tree {t : List WishD} (h : SmallT t) {l : List Int} (hi : ∀ x ∈ l, idxB x t.length = true) (hl : l.length ≤ 6) : treeMax (subT t l) ≤ 65536 := by
 have h1 := treeMax_geo (m := 5) (s := subT t l) fun x hx => (h.opts x (subT_mem hi hx)).2
 have h2 := geo_mono (m := 5) (by decide) (a := (subT t l).length) (b := 6) (by rw [sub_len]; exact hl)
 have h3 : geo 5 6 ≤ 65536 := by decide
 omega
theorem subT_sub {t : List WishD} {l l' : List Int} (h : l' <+ l) : subT t l' <+ subT t l := h.map _
theorem subT_up (t : List WishD) : subT t (upI t.length) = t := by
 unfold subT upI
 rw [List.map_map]
 apply List.ext_getElem?
 intro j
 rw [List.getElem?_map]
 by_cases h : j < t.length
 ·simp [List.getElem?_range h, List.getElem?_eq_getElem h]
 ·rw [List.getElem?_eq_none (by simp; omega), List.getElem?_eq_none (by omega)]; rfl

/-! ### sublists of the places -/
def selSt (t : List WishD) (l : List Int) : Bool := standB (subT t l)
theorem selSt_sub {t : List WishD} {l l' : List Int} (h : selSt t l = true) (hs : l' <+ l) : selSt t l' = true := standB_sub h (subT_sub hs)
theorem up_idx {n : Nat} {l : List Int} (h : l <+ upI n) : ∀ x ∈ l, idxB x n = true := fun x hx => upI_idx x (h.subset hx)
theorem up_len {n : Nat} {l : List Int} (h : l <+ upI n) : l.length ≤ n := by have := h.length_le; rwa [upI_len] at this
theorem SmallT.stands {t : List WishD} (h : SmallT t) {l : List Int} (hs : l <+ upI t.length) : standsT t l = (selSt t l, 0) :=
 stands_is (h.tree (up_idx hs) (Nat.le_trans (up_len hs) h.len))
theorem erase_comm {l : List Int} {i k : Nat} (h : i ≤ k) : (l.eraseIdx (k + 1)).eraseIdx i = (l.eraseIdx i).eraseIdx k := by
 induction l generalizing i k with
 | nil => simp
 | cons x l ih =>
  cases i with
  | zero => simp
  | succ i =>
   cases k with
   | zero => omega
   | succ k => simp [ih (i := i) (k := k) (by omega)]
def CoreP (t : List WishD) (l : List Int) : Prop := selSt t l = false ∧ ∀ k, k < l.length → selSt t (l.eraseIdx k) = true
theorem ofLoop_core {t : List WishD} (h : SmallT t) : ∀ (i : Nat) (l : List Int), l <+ upI t.length → i ≤ l.length → selSt t l = false → (∀ k, i ≤ k → k < l.length → selSt t (l.eraseIdx k) = true) →
  ∃ L, ofLoop t i l = (L, true, 0) ∧ L <+ l ∧ CoreP t L
 | 0, l, hs, _, hn, hk => ⟨l, rfl, List.Sublist.refl _, hn, fun k hk' => hk k (Nat.zero_le _) hk'⟩
 | i + 1, l, hs, hi, hn, hk => by
  have he : l.eraseIdx i <+ l := List.eraseIdx_sublist l i
  simp only [ofLoop]
  rw [h.stands (he.trans hs)]
  simp only [ne_eq, not_true_eq_false, if_false]
  cases hc : selSt t (l.eraseIdx i) with
  | true =>
   rw [if_pos rfl]
   exact ofLoop_core h i l hs (by omega) hn fun k h1 h2 => by
    by_cases e : k = i
    ·rw [e]; exact hc
    ·exact hk k (by omega) h2
  | false =>
   rw [if_neg (by simp)]
   have hl : (l.eraseIdx i).length + 1 = l.length := by rw [List.length_eraseIdx, if_pos (by omega)]; omega
   obtain ⟨L, e1, e2, e3⟩ := ofLoop_core h i (l.eraseIdx i) (he.trans hs) (by omega) hc fun k h1 h2 => by
    rw [← erase_comm h1]
    exact selSt_sub (hk (k + 1) (by omega) (by omega)) (List.eraseIdx_sublist _ _)
   exact ⟨L, e1, e2.trans he, e3⟩
theorem selSt_up (t : List WishD) : selSt t (upI t.length) = standB t := by unfold selSt; rw [subT_up]
theorem of_stands {t : List WishD} (h : SmallT t) (hv : validT t = 0) (hs : standB t = true) : ofT t = ([], false, 0) := by
 unfold ofT
 rw [if_pos hv, h.stands (List.Sublist.refl _), selSt_up, hs]
 rfl
theorem of_core {t : List WishD} (h : SmallT t) (hv : validT t = 0) (hs : standB t = false) : ∃ L, ofT t = (L, true, 0) ∧ L <+ upI t.length ∧ CoreP t L := by
 unfold ofT
 rw [if_pos hv, h.stands (List.Sublist.refl _), selSt_up, hs]
 have := ofLoop_core h t.length (upI t.length) (List.Sublist.refl _) (by rw [upI_len]; exact Nat.le_refl _) (by rw [selSt_up]; exact hs) (fun k h1 h2 => by rw [upI_len] at h2; omega)
 simpa using this
theorem CoreP.two {t : List WishD} (h : SmallT t) {l : List Int} (hs : l <+ upI t.length) (hc : CoreP t l) : 2 ≤ l.length := by
 rcases l with _ | ⟨x, _ | ⟨y, l⟩⟩
 ·have := hc.1
  unfold selSt subT at this
  rw [List.map_nil, standB_nil] at this
  cases this
 ·have := hc.1
  have hm := subT_mem (up_idx hs) (y := t[x.toNat]?.getD default) (by simp [subT])
  unfold selSt subT at this
  rw [List.map_cons, List.map_nil, standB_one (h.opts _ hm).1] at this
  cases this
 ·simp
theorem core_in {t : List WishD} : ∀ (n : Nat) (l : List Int), l.length ≤ n → selSt t l = false → ∃ L, L <+ l ∧ CoreP t L
 | n, l, hl, hn => by
  by_cases hc : ∀ k, k < l.length → selSt t (l.eraseIdx k) = true
  ·exact ⟨l, List.Sublist.refl _, hn, hc⟩
  ·obtain ⟨k, hk⟩ := Classical.not_forall.1 hc
   obtain ⟨hk1, hk2⟩ := Classical.not_imp.1 hk
   cases n with
   | zero => omega
   | succ n =>
    obtain ⟨L, h1, h2⟩ := core_in n (l.eraseIdx k) (by rw [List.length_eraseIdx, if_pos hk1]; omega) (by simpa using hk2)
    exact ⟨L, h1.trans (List.eraseIdx_sublist _ _), h2⟩
end Go.Proofs.YtjglidlmpjmjeaaGreatDoor

/- The plain law of all selections: their order, and the least ones that do not stand. -/
namespace Go.Proofs.YtjglidlmpjmjeaaGreatDoor
open Go.RowKit List

def combs (n : Nat) : Nat → Nat → List Int → List (List Int)
 | 0, _, l => [l]
 | k + 1, first, l => (List.range' first (n - first)).flatMap fun i => combs n k (i + 1) (l ++ [(i : Int)])
def sels (n : Nat) : List (List Int) := (List.range (n + 1)).flatMap fun size => combs n size 0 []
def inSelB (c l : List Int) : Bool := !(c.any fun i => !hasI l i)
def allLoop (t : List WishD) : List (List Int) → List (List Int) → List (List Int) × Int
 | [], out => (out, 0)
 | l :: r, out => if (standsT t l).2 ≠ 0 then ([], (standsT t l).2) else allLoop t r (if !(standsT t l).1 && !(out.any fun c => inSelB c l) then out ++ [l] else out)
def allT (t : List WishD) : List (List Int) × Int := if validT t = 0 then (if 12 < t.length then ([], 2) else allLoop t (sels t.length) []) else ([], validT t)

def upFrom (first n : Nat) : List Int := (List.range' first (n - first)).map fun k : Nat => (k : Int)
theorem upFrom_zero (n : Nat) : upFrom 0 n = upI n := by simp [upFrom, upI, List.range_eq_range']
theorem upFrom_nil {first n : Nat} (h : n ≤ first) : upFrom first n = [] := by simp [upFrom, Nat.sub_eq_zero_of_le h]
theorem upFrom_cons {first n : Nat} (h : first < n) : upFrom first n = (first : Int) :: upFrom (first + 1) n := by
 unfold upFrom
 rw [show n - first = (n - (first + 1)) + 1 by omega, List.range'_succ]
 rfl
theorem upFrom_sub {a b n : Nat} (h : a ≤ b) : upFrom b n <+ upFrom a n := by
 induction h with
 | refl => exact List.Sublist.refl _
 | step h ih =>
  rename_i m
  by_cases hm : m < n
  ·rw [upFrom_cons hm] at ih
   exact (List.sublist_cons_self _ _).trans ih
  ·rw [upFrom_nil (first := m + 1) (by omega)]
   exact List.nil_sublist _
theorem cons_up {n : Nat} {x : Int} {s : List Int} : ∀ (d first : Nat), n - first = d → (x :: s <+ upFrom first n ↔ ∃ i : Nat, first ≤ i ∧ i < n ∧ x = i ∧ s <+ upFrom (i + 1) n)
 | 0, first, hd => by
  rw [upFrom_nil (by omega)]
  refine ⟨fun h => (by cases h), ?_⟩
  rintro ⟨i, h1, h2, _⟩
  omega
 | d + 1, first, hd => by
  rw [upFrom_cons (by omega)]
  constructor
  ·intro h
   cases h with
   | cons _ h =>
    obtain ⟨i, h1, h2, h3, h4⟩ := (cons_up d (first + 1) (by omega)).1 h
    exact ⟨i, by omega, h2, h3, h4⟩
   | cons_cons _ h => exact ⟨first, Nat.le_refl _, by omega, rfl, h⟩
  ·rintro ⟨i, h1, h2, rfl, h4⟩
   by_cases e : i = first
   ·subst e; exact h4.cons_cons _
   ·exact ((cons_up d (first + 1) (by omega)).2 ⟨i, by omega, h2, rfl, h4⟩).cons _
theorem mem_combs {n : Nat} : ∀ {k first : Nat} {l c : List Int}, c ∈ combs n k first l ↔ ∃ s, c = l ++ s ∧ s.length = k ∧ s <+ upFrom first n
 | 0, first, l, c => by
  simp only [combs, List.mem_singleton]
  constructor
  ·rintro rfl; exact ⟨[], by simp, rfl, List.nil_sublist _⟩
  ·rintro ⟨s, rfl, h, _⟩
   rw [List.length_eq_zero_iff] at h
   simp [h]
 | k + 1, first, l, c => by
  simp only [combs, List.mem_flatMap, List.mem_range'_1]
  constructor
  ·rintro ⟨i, hi, h⟩
   obtain ⟨s, rfl, h2, h3⟩ := mem_combs.1 h
   exact ⟨(i : Int) :: s, by simp, by simp [h2], (cons_up _ first rfl).2 ⟨i, hi.1, by omega, rfl, h3⟩⟩
  ·rintro ⟨s, rfl, h2, h3⟩
   cases s with
   | nil => simp at h2
   | cons x s =>
    obtain ⟨i, h4, h5, rfl, h6⟩ := (cons_up _ first rfl).1 h3
    exact ⟨i, ⟨h4, by omega⟩, mem_combs.2 ⟨s, by simp, by simpa using h2, h6⟩⟩
theorem mem_sels {n : Nat} {c : List Int} : c ∈ sels n ↔ c <+ upI n := by
 unfold sels
 rw [List.mem_flatMap]
 constructor
 ·rintro ⟨k, _, h⟩
  obtain ⟨s, rfl, _, h3⟩ := mem_combs.1 h
  rw [upFrom_zero] at h3
  simpa using h3
 ·intro h
  exact ⟨c.length, List.mem_range.2 (by have := up_len h; omega), mem_combs.2 ⟨c, by simp, rfl, by rw [upFrom_zero]; exact h⟩⟩
def selLt (a b : List Int) : Prop := a.length < b.length ∨ (a.length = b.length ∧ LexB a b)
theorem combs_sorted {n : Nat} : ∀ (k first : Nat) (l : List Int), (combs n k first l).Pairwise LexB
 | 0, _, _ => List.pairwise_singleton _ _
 | k + 1, first, l => by
  simp only [combs]
  rw [List.pairwise_flatMap]
  refine ⟨fun i _ => combs_sorted k (i + 1) _, ?_⟩
  refine (List.pairwise_lt_range' (s := first) (n := n - first) (step := 1)).imp ?_
  intro i j hij x hx y hy
  obtain ⟨s, rfl, _⟩ := mem_combs.1 hx
  obtain ⟨s', rfl, _⟩ := mem_combs.1 hy
  rw [List.append_assoc, List.append_assoc]
  refine LexB.pre l ?_
  show LexB ((i : Int) :: s) ((j : Int) :: s')
  unfold LexB
  omega
theorem sels_sorted (n : Nat) : (sels n).Pairwise selLt := by
 unfold sels
 rw [List.pairwise_flatMap]
 have hlen : ∀ k, ∀ x ∈ combs n k 0 [], x.length = k := fun k x hx => by
  obtain ⟨s, rfl, h, _⟩ := mem_combs.1 hx
  simpa using h
 refine ⟨fun k _ => ?_, ?_⟩
 ·refine (combs_sorted k 0 []).imp_of_mem ?_
  intro a b ha hb h
  exact Or.inr ⟨by rw [hlen k a ha, hlen k b hb], h⟩
 ·refine (List.pairwise_lt_range (n := n + 1)).imp ?_
  intro i j hij x hx y hy
  exact Or.inl (by rw [hlen i x hx, hlen j y hy]; exact hij)
theorem LexB.irrefl : ∀ (a : List Int), ¬ LexB a a
 | [], h => by simp [LexB] at h
 | x :: a, h => by
  simp only [LexB] at h
  rcases h with h | ⟨_, h⟩
  ·omega
  ·exact LexB.irrefl a h
theorem selLt.irrefl (a : List Int) : ¬ selLt a a := by
 rintro (h | ⟨_, h⟩)
 ·omega
 ·exact LexB.irrefl a h

/-! ### the cores -/
def coreB (t : List WishD) (l : List Int) : Bool := !selSt t l && (List.range l.length).all fun k => selSt t (l.eraseIdx k)
theorem coreB_iff {t : List WishD} {l : List Int} : coreB t l = true ↔ CoreP t l := by
 unfold coreB CoreP
 simp [List.all_eq_true]
theorem sub_erase {c l : List Int} (h : c <+ l) (hl : c.length < l.length) : ∃ k, k < l.length ∧ c <+ l.eraseIdx k := by
 induction h with
 | slnil => simp at hl
 | cons x h ih => exact ⟨0, by simp, by simpa using h⟩
 | cons_cons x h ih =>
  obtain ⟨k, h1, h2⟩ := ih (by simpa using hl)
  exact ⟨k + 1, by simpa using h1, by simpa using h2⟩
theorem upI_sorted (n : Nat) : (upI n).Pairwise (· < ·) := by
 unfold upI
 rw [List.pairwise_map]
 exact (List.pairwise_lt_range (n := n)).imp fun h => by omega
theorem rise_sub : ∀ {l c : List Int}, l.Pairwise (· < ·) → c.Pairwise (· < ·) → (∀ x ∈ c, x ∈ l) → c <+ l
 | _, [], _, _, _ => List.nil_sublist _
 | [], x :: c, _, _, h => by have := h x List.mem_cons_self; cases this
 | y :: l, x :: c, hl, hc, h => by
  rw [List.pairwise_cons] at hl hc
  by_cases e : x = y
  ·subst e
   refine (rise_sub hl.2 hc.2 fun z hz => ?_).cons_cons _
   rcases List.mem_cons.1 (h z (List.mem_cons_of_mem _ hz)) with rfl | hz'
   ·have := hc.1 _ hz; omega
   ·exact hz'
  ·have hx : x ∈ l := by
    rcases List.mem_cons.1 (h x List.mem_cons_self) with h1 | h1
    ·exact absurd h1 e
    ·exact h1
   have hxy := hl.1 x hx
   refine (rise_sub hl.2 (List.pairwise_cons.2 hc) fun z hz => ?_).cons _
   rcases List.mem_cons.1 (h z hz) with rfl | hz'
   ·rcases List.mem_cons.1 hz with rfl | hz2
    ·omega
    ·have := hc.1 _ hz2; omega
   ·exact hz'
theorem inSelB_sub {n : Nat} {c l : List Int} (hc : c <+ upI n) (hl : l <+ upI n) : inSelB c l = true ↔ c <+ l := by
 unfold inSelB
 simp only [hasI_contains, Bool.not_eq_true', List.any_eq_false, Bool.not_eq_true', Bool.not_eq_false, List.contains_iff_mem]
 constructor
 ·intro h
  exact rise_sub ((upI_sorted n).sublist hl) ((upI_sorted n).sublist hc) h
 ·intro h x hx
  exact h.subset hx
theorem core_key {t : List WishD} {p r : List (List Int)} {l : List Int} (e : sels t.length = p ++ l :: r) : (!selSt t l && !((p.filter (coreB t)).any fun c => inSelB c l)) = coreB t l := by
 have hm : ∀ x, x ∈ p ++ l :: r → x <+ upI t.length := fun x hx => mem_sels.1 (e ▸ hx)
 have hl := hm l (by simp)
 have hs := sels_sorted t.length
 rw [e, List.pairwise_append] at hs
 obtain ⟨_, hs2, hs3⟩ := hs
 rw [List.pairwise_cons] at hs2
 rw [Bool.eq_iff_iff, Bool.and_eq_true, Bool.not_eq_true', Bool.not_eq_true', List.any_eq_false, coreB_iff]
 constructor
 ·rintro ⟨h1, h2⟩
  refine ⟨h1, fun k hk => ?_⟩
  cases hc : selSt t (l.eraseIdx k) with
  | true => rfl
  | false =>
   obtain ⟨L, h3, h4⟩ := core_in _ _ (Nat.le_refl _) hc
   have hLl : L <+ l := h3.trans (List.eraseIdx_sublist _ _)
   have hlt : L.length < l.length := by
    have := h3.length_le
    rw [List.length_eraseIdx, if_pos hk] at this
    omega
   have hL : L ∈ p ++ l :: r := e ▸ mem_sels.2 (hLl.trans hl)
   rcases List.mem_append.1 hL with hL | hL
   ·have := h2 L (List.mem_filter.2 ⟨hL, coreB_iff.2 h4⟩)
    rw [Bool.not_eq_true] at this
    rw [(inSelB_sub (hLl.trans hl) hl).2 hLl] at this
    cases this
   ·rcases List.mem_cons.1 hL with rfl | hL
    ·omega
    ·rcases hs2.1 L hL with h5 | h5 <;> omega
 ·intro hc
  refine ⟨hc.1, fun c hcm => ?_⟩
  obtain ⟨hcp, hcc⟩ := List.mem_filter.1 hcm
  rw [Bool.not_eq_true]
  cases hi : inSelB c l with
  | false => rfl
  | true =>
   have hcl := (inSelB_sub (hm c (by simp [hcp])) hl).1 hi
   have hne : c.length < l.length := by
    have := hcl.length_le
    rcases hs3 c hcp l List.mem_cons_self with h5 | h5
    ·exact h5
    ·have := hcl.eq_of_length h5.1
     subst this
     exact absurd h5.2 (LexB.irrefl _)
   obtain ⟨k, hk, hck⟩ := sub_erase hcl hne
   have := selSt_sub (hc.2 k hk) hck
   rw [(coreB_iff.1 hcc).1] at this
   cases this
theorem allLoop_is {t : List WishD} (h : SmallT t) : ∀ (r p : List (List Int)), sels t.length = p ++ r → allLoop t r (p.filter (coreB t)) = ((sels t.length).filter (coreB t), 0)
 | [], p, e => by rw [e]; simp [allLoop]
 | l :: r, p, e => by
  have hm : ∀ x, x ∈ p ++ l :: r → x <+ upI t.length := fun x hx => mem_sels.1 (e ▸ hx)
  have hl := hm l (by simp)
  simp only [allLoop]
  rw [h.stands hl]
  simp only [ne_eq, not_true_eq_false, if_false]
  have key := core_key e
  rw [key]
  have e2 : (if coreB t l = true then p.filter (coreB t) ++ [l] else p.filter (coreB t)) = (p ++ [l]).filter (coreB t) := by
   rw [List.filter_append]
   cases hb : coreB t l with
   | true => simp [hb]
   | false => simp [hb]
  rw [e2]
  exact allLoop_is h r (p ++ [l]) (by rw [e]; simp)
theorem all_is {t : List WishD} (h : SmallT t) (hv : validT t = 0) : allT t = ((sels t.length).filter (coreB t), 0) := by
 have hl := h.len
 unfold allT
 rw [if_pos hv, if_neg (by omega)]
 exact allLoop_is h (sels t.length) [] rfl
end Go.Proofs.YtjglidlmpjmjeaaGreatDoor
