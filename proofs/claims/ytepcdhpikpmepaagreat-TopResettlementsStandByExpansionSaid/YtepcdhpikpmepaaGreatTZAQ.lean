import Derived.Test.YtepcdhpikpmepaaGreatTXQ
import Derived.Test.YtepcdhpikpmepaaGreatPKQ
import Derived.Test.YtepcdhpikpmepaaGreatPLQ
import Derived.Test.YtepcdhpikpmepaaGreatCKQ
namespace Go.Proofs.YtepcdhpikpmepaaGreat
open Go.RowKit Go.Shelf

/-! ### spans that meet, instances that collide -/
theorem chain_posT : ∀ {l : List (Int × Int)} {p : Option Int}, chainB p l = true → ∀ s ∈ l, s.1 < s.2
 | [], _, _, s, hs => by cases hs
 | x :: r, p, h, s, hs => by
  simp only [chainB, Bool.and_eq_true, decide_eq_true_eq] at h
  rcases List.mem_cons.1 hs with rfl | hs
  ·exact h.1.1
  ·exact chain_posT h.2 s hs
theorem bare_has {s : StreamD} {u : Int} : hasB (bareS s) u = true ↔ ∃ p ∈ listI s, p.2.1 ≤ u ∧ u < p.2.2 := by
 rw [hasB_iff]
 unfold bareS
 constructor
 ·rintro ⟨x, hx, h⟩
  obtain ⟨p, hp, rfl⟩ := List.mem_map.1 hx
  exact ⟨p, hp, h⟩
 ·rintro ⟨p, hp, h⟩
  exact ⟨p.2, List.mem_map.2 ⟨p, hp, rfl⟩, h⟩
theorem spans_has {s : StreamD} {u : Int} : hasB (spansS s) u = true ↔ (∃ p ∈ listI s, p.2.1 ≤ u ∧ u < p.2.2) ∧ 0 ≤ u ∧ u < 20160 := by
 unfold spansS
 rw [comb_has]
 simp only [inB, Bool.and_eq_true, show ((1 : Int) = 0) = False from by decide, if_false, if_true]
 rw [bare_has, hasB_iff]
 simp
theorem spans_pos {s : StreamD} : ∀ x ∈ spansS s, x.1 < x.2 := chain_posT (comb_chain 1 (bareS s) [(0, 20160)])
theorem meet_has {a b : List (Int × Int)} (ha : ∀ s ∈ a, s.1 < s.2) (hb : ∀ s ∈ b, s.1 < s.2) : meetB a b = true ↔ ∃ u, hasB a u = true ∧ hasB b u = true := by
 rw [meetB_iff]
 constructor
 ·rintro ⟨x, hx, y, hy, h1, h2⟩
  have := ha x hx
  have := hb y hy
  exact ⟨max x.1 y.1, hasB_iff.2 ⟨x, hx, by omega, by omega⟩, hasB_iff.2 ⟨y, hy, by omega, by omega⟩⟩
 ·rintro ⟨u, h1, h2⟩
  obtain ⟨x, hx, a1, a2⟩ := hasB_iff.1 h1
  obtain ⟨y, hy, b1, b2⟩ := hasB_iff.1 h2
  exact ⟨x, hx, y, hy, by omega, by omega⟩
theorem coll_meet (a b : StreamD) : collB a b = meetB (spansS a) (spansS b) := by
 rw [Bool.eq_iff_iff, meet_has spans_pos spans_pos]
 unfold collB metB
 simp only [List.any_eq_true, decide_eq_true_eq]
 constructor
 ·rintro ⟨x, hx, y, hy, h⟩
  exact ⟨max (max x.2.1 y.2.1) 0, spans_has.2 ⟨⟨x, hx, by omega, by omega⟩, by omega, by omega⟩, spans_has.2 ⟨⟨y, hy, by omega, by omega⟩, by omega, by omega⟩⟩
 ·rintro ⟨u, h1, h2⟩
  obtain ⟨⟨x, hx, a1, a2⟩, u0, u1⟩ := spans_has.1 h1
  obtain ⟨⟨y, hy, b1, b2⟩, _, _⟩ := spans_has.1 h2
  exact ⟨x, hx, y, hy, by omega⟩
/-! ### the task -/
def taskF : Nat → List StandD → List WishD
 | _, [] => []
 | i, x :: r => wishS i x :: taskF (i + 1) r
theorem taskF_snoc (x : StandD) : ∀ (l : List StandD) (i : Nat), taskF i (l ++ [x]) = taskF i l ++ [wishS (i + l.length) x]
 | [], i => rfl
 | y :: r, i => by
  rw [List.cons_append, taskF, taskF_snoc x r (i + 1), taskF, List.cons_append, List.length_cons, show i + 1 + r.length = i + (r.length + 1) by omega]
theorem taskTo_is (l : List StandD) : ∀ k, k ≤ l.length → taskTo l k = taskF 0 (l.take k)
 | 0, _ => by rw [List.take_zero]; rfl
 | k + 1, h => by
  have hk : k < l.length := by omega
  rw [taskTo, taskTo_is l k (by omega), List.take_succ_eq_append_getElem hk, taskF_snoc, List.length_take, Nat.zero_add, Nat.min_eq_left (by omega), List.getElem?_eq_getElem hk]
  rfl
theorem taskS_is (l : List StandD) : taskS l = taskF 0 l := by unfold taskS; rw [taskTo_is l _ (Nat.le_refl _), List.take_length]
theorem taskF_at : ∀ (l : List StandD) (i j : Nat), (taskF i l)[j]? = (l[j]?).map (wishS (i + j))
 | [], i, j => by simp [taskF]
 | x :: r, i, 0 => by simp [taskF]
 | x :: r, i, j + 1 => by
  rw [taskF, List.getElem?_cons_succ, List.getElem?_cons_succ, taskF_at r (i + 1) j, show i + 1 + j = i + (j + 1) by omega]
theorem taskS_at (l : List StandD) (j : Nat) : (taskS l)[j]? = (l[j]?).map (wishS j) := by rw [taskS_is, taskF_at, Nat.zero_add]
theorem taskS_len (l : List StandD) : (taskS l).length = l.length := taskTo_len l _
theorem optsS_is {room : Int} (sp : List (Int × Int)) (h0 : 0 ≤ room) (h1 : room ≤ 2) : ∃ k1 k2 : Int, optsS room sp = [⟨0, room, sp⟩, ⟨3, k1, sp⟩, ⟨3, k2, sp⟩, ⟨40, -1, []⟩] ∧ 0 ≤ k1 ∧ k1 ≤ 2 ∧ 0 ≤ k2 ∧ k2 ≤ 2 := by
 obtain rfl | rfl | rfl : room = 0 ∨ room = 1 ∨ room = 2 := by omega
 ·exact ⟨1, 2, rfl, by decide, by decide, by decide, by decide⟩
 ·exact ⟨0, 2, rfl, by decide, by decide, by decide, by decide⟩
 ·exact ⟨0, 1, rfl, by decide, by decide, by decide, by decide⟩
theorem optsS_four {room : Int} (sp : List (Int × Int)) (h0 : 0 ≤ room) (h1 : room ≤ 2) : (optsS room sp).length = 4 := by
 obtain ⟨k1, k2, e, _⟩ := optsS_is sp h0 h1
 rw [e]; rfl
theorem spansS_normal {s : StreamD} (h : StreamOk s) : normalB (spansS s) = true := by
 unfold spansS
 exact comb_normal (bareS_ranged h) rfl
theorem optsS_ok {x : StandD} (h : StandOk x) : ∀ o ∈ optsS x.room (spansS x.stream), optOkB o = true ∧ o.spans.length ≤ 64 := by
 obtain ⟨k1, k2, e, a1, a2, b1, b2⟩ := optsS_is (spansS x.stream) h.room0 h.room1
 have hn := spansS_normal h.stream
 have hl := spansS_len h.stream h.few
 have r0 := h.room0
 have r1 := h.room1
 intro o ho
 rw [e] at ho
 simp only [List.mem_cons, List.not_mem_nil, or_false] at ho
 rcases ho with rfl | rfl | rfl | rfl
 ·refine ⟨?_, hl⟩
  simp only [optOkB, hn, Bool.and_true, Bool.and_eq_true, decide_eq_true_eq]
  omega
 ·refine ⟨?_, hl⟩
  simp only [optOkB, hn, Bool.and_true, Bool.and_eq_true, decide_eq_true_eq]
  omega
 ·refine ⟨?_, hl⟩
  simp only [optOkB, hn, Bool.and_true, Bool.and_eq_true, decide_eq_true_eq]
  omega
 ·exact ⟨by decide, by decide⟩
theorem taskF_ok : ∀ (l : List StandD) (i : Nat) (p : Option Int), (∀ x ∈ l, StandOk x) → (∀ e, p = some e → e < (i : Int) + 1) → wishesB p (taskF i l) = true
 | [], _, _, _, _ => rfl
 | x :: r, i, p, h, hp => by
  have hx := h x List.mem_cons_self
  have h4 := optsS_four (spansS x.stream) hx.room0 hx.room1
  have hok : wishOkB (wishS i x) = true := by
   have e1 : decide (1 ≤ (wishS i x).meeting) = true := decide_eq_true (by show (1 : Int) ≤ (i : Int) + 1; omega)
   have e2 : decide (0 < (wishS i x).opts.length) = true := decide_eq_true (by show 0 < (optsS x.room (spansS x.stream)).length; omega)
   have e3 : (wishS i x).opts.all optOkB = true := List.all_eq_true.2 fun o ho => (optsS_ok hx o ho).1
   unfold wishOkB
   rw [e1, e2, e3]
   rfl
  have hnx := taskF_ok r (i + 1) (some (wishS i x).meeting) (fun y hy => h y (List.mem_cons_of_mem _ hy)) (fun e he => by
   cases he
   show (i : Int) + 1 < ((i + 1 : Nat) : Int) + 1
   omega)
  cases p with
  | none =>
   show (wishOkB (wishS i x) && true && wishesB (some (wishS i x).meeting) (taskF (i + 1) r)) = true
   rw [hok, hnx]; rfl
  | some e =>
   have := hp e rfl
   show (wishOkB (wishS i x) && decide (e < (i : Int) + 1) && wishesB (some (wishS i x).meeting) (taskF (i + 1) r)) = true
   rw [hok, hnx, decide_eq_true this]; rfl
theorem taskS_mem {l : List StandD} {w : WishD} (h : w ∈ taskS l) : ∃ i x, x ∈ l ∧ w = wishS i x := by
 obtain ⟨j, hj⟩ := List.mem_iff_getElem?.1 h
 rw [taskS_at] at hj
 obtain ⟨x, hx, rfl⟩ := Option.map_eq_some_iff.1 hj
 exact ⟨j, x, List.mem_of_getElem? hx, rfl⟩
theorem taskS_valid {l : List StandD} (h : ∀ x ∈ l, StandOk x) (h0 : 0 < l.length) (h4 : l.length ≤ 4) : validT (taskS l) = 0 := by
 have hbig : tooLargeB (taskS l) = false := by
  simp only [tooLargeB, Bool.or_eq_false_iff, decide_eq_false_iff_not, List.any_eq_false]
  refine ⟨by rw [taskS_len]; omega, fun w hw => ?_⟩
  obtain ⟨i, x, hx, rfl⟩ := taskS_mem hw
  have hs := h x hx
  have h4 := optsS_four (spansS x.stream) hs.room0 hs.room1
  simp only [Bool.or_eq_true, decide_eq_true_eq, List.any_eq_true, not_or, not_exists, not_and]
  refine ⟨⟨by show ¬ 16 < (optsS x.room (spansS x.stream)).length; omega, by show ¬ 64 < ([] : List Int).length; decide⟩, fun o ho => ?_⟩
  have := (optsS_ok hs o ho).2
  omega
 unfold validT
 rw [hbig, taskS_is, taskF_ok l 0 none h (fun e he => by cases he), ← taskS_is, taskS_len]
 simp [h0]
theorem taskS_tree {l : List StandD} (h : ∀ x ∈ l, StandOk x) (h4 : l.length ≤ 4) : treeMax (taskS l) ≤ 341 :=
 tree_four (fun w hw => by
  obtain ⟨i, x, hx, rfl⟩ := taskS_mem hw
  have hs := h x hx
  have h4 := optsS_four (spansS x.stream) hs.room0 hs.room1
  show (optsS x.room (spansS x.stream)).length ≤ 4
  omega) (by rw [taskS_len]; exact h4)
end Go.Proofs.YtepcdhpikpmepaaGreat
namespace Go.Proofs.YtepcdhpikpmepaaGreat
open Go.RowKit Go.Shelf

theorem place_opt {l : List StandD} (h : ∀ x ∈ l, StandOk x) {i a : Nat} {x : StandD} (hx : l[i]? = some x) (h0 : 0 ≤ placeT (taskS l) i a) :
  ∃ o, (wishS i x).opts[a]? = some o ∧ o.room = placeT (taskS l) i a ∧ o.spans = spansS x.stream := by
 have hs := h x (List.mem_of_getElem? hx)
 obtain ⟨k1, k2, e, _⟩ := optsS_is (spansS x.stream) hs.room0 hs.room1
 unfold placeT at h0 ⊢
 rw [taskS_at, hx] at h0 ⊢
 simp only [Option.map_some, Option.getD_some] at h0 ⊢
 have hop : (wishS i x).opts = [⟨0, x.room, spansS x.stream⟩, ⟨3, k1, spansS x.stream⟩, ⟨3, k2, spansS x.stream⟩, ⟨40, -1, []⟩] := e
 rw [hop] at h0 ⊢
 match a with
 | 0 => exact ⟨_, rfl, rfl, rfl⟩
 | 1 => exact ⟨_, rfl, rfl, rfl⟩
 | 2 => exact ⟨_, rfl, rfl, rfl⟩
 | 3 => exact absurd (show (0 : Int) ≤ -1 from h0) (by decide)
 | a + 4 => exact absurd h0 (by simp)
theorem place_clash {l : List StandD} (h : ∀ x ∈ l, StandOk x) (hv : validT (taskS l) = 0) {i k a b : Nat} {x y : StandD} (hx : l[i]? = some x) (hy : l[k]? = some y) (hne : i ≠ k)
  (h0 : 0 ≤ placeT (taskS l) i a) (he : placeT (taskS l) i a = placeT (taskS l) k b) (hc : collB x.stream y.stream = true) : clashT (taskS l) i a k b = true := by
 obtain ⟨o, h1, h2, h3⟩ := place_opt h hx h0
 obtain ⟨p, h4, h5, h6⟩ := place_opt h hy (he ▸ h0)
 rw [clashT_eq hv hne (by rw [taskS_at, hx]; rfl) (by rw [taskS_at, hy]; rfl) h1 h4]
 unfold clashB
 rw [h3, h6, ← coll_meet, hc, h2, h5, ← he]
 simp [h0]
/-! ### choices -/
theorem same_choice {l : List StandD} (h : ∀ x ∈ l, StandOk x) {c : Nat} (hc : c < 4) : ∀ (i : Nat), choiceB (taskF i l) (List.replicate l.length (c : Int)) = true := by
 induction l with
 | nil => intro i; rfl
 | cons x r ih =>
  intro i
  have hs := h x List.mem_cons_self
  have h4 := optsS_four (spansS x.stream) hs.room0 hs.room1
  rw [taskF, List.length_cons, List.replicate_succ, choiceB, ih (fun y hy => h y (List.mem_cons_of_mem _ hy))]
  have : idxB (c : Int) (wishS i x).opts.length = true := by
   unfold idxB
   rw [show (wishS i x).opts.length = 4 from h4]
   simp
   omega
  rw [this]; rfl
theorem rep_at {n c i : Nat} (h : i < n) : (List.replicate n (c : Int))[i]? = some (c : Int) := by simp [h]
theorem free_rep {t : List WishD} (hv : validT t = 0) {n c : Nat} (hn : n = t.length) (hcl : ∀ i k, i < n → k < i → clashT t i c k c = false) : freeB t (List.replicate n (c : Int)) = true := by
 unfold freeB
 rw [List.all_eq_true]
 intro d hd
 simp only [List.mem_range, List.length_replicate] at hd
 have hz : findI (fun i => clashAt t (List.replicate n (c : Int)) i d) (List.range d) = -1 := by
  have : decide (0 ≤ findI (fun i => clashAt t (List.replicate n (c : Int)) i d) (List.range d)) = false := by
   rw [findI_ge, List.any_eq_false]
   intro i hi
   simp only [List.mem_range] at hi
   have hne : i ≠ d := by omega
   unfold clashAt
   cases h1 : optOf t (List.replicate n (c : Int)) i with
   | none => simp
   | some r1 =>
    cases h2 : optOf t (List.replicate n (c : Int)) d with
    | none => simp
    | some r2 =>
     obtain ⟨x, o⟩ := r1
     obtain ⟨y, p⟩ := r2
     obtain ⟨m1, e1, e2, e3⟩ := optOf_spec h1
     obtain ⟨m2, e4, e5, e6⟩ := optOf_spec h2
     rw [rep_at (by omega)] at e2 e5
     obtain rfl : m1 = c := by have := Option.some.inj e2; omega
     obtain rfl : m2 = m1 := by have := Option.some.inj e5; omega
     have := hcl d i (by omega) (by omega)
     rw [clashT_comm, clashT_eq hv hne e1 e4 e3 e6] at this
     simp [this]
  have h2 := of_decide_eq_false this
  unfold findI at h2 ⊢
  cases hh : (List.range d).findIdx? (fun i => clashAt t (List.replicate n (c : Int)) i d) with
  | none => rfl
  | some j => rw [hh] at h2; simp at h2
 have : earlierI t (List.replicate n (c : Int)) d = -1 := hz
 rw [this]; rfl
theorem drop_lawful {l : List StandD} (h : ∀ x ∈ l, StandOk x) (hv : validT (taskS l) = 0) : lawfulB (taskS l) (List.replicate l.length (3 : Int)) = true := by
 have hc : choiceB (taskS l) (List.replicate l.length ((3 : Nat) : Int)) = true := by rw [taskS_is]; exact same_choice h (by decide) 0
 have hf : freeB (taskS l) (List.replicate l.length ((3 : Nat) : Int)) = true := free_rep hv (taskS_len l).symm fun i k hi hk => by
  obtain ⟨x, hx⟩ : ∃ x, l[i]? = some x := ⟨_, List.getElem?_eq_getElem hi⟩
  obtain ⟨y, hy⟩ : ∃ y, l[k]? = some y := ⟨_, List.getElem?_eq_getElem (by omega)⟩
  have hs := h x (List.mem_of_getElem? hx)
  have hs' := h y (List.mem_of_getElem? hy)
  obtain ⟨k1, k2, e, _⟩ := optsS_is (spansS x.stream) hs.room0 hs.room1
  obtain ⟨k3, k4, e', _⟩ := optsS_is (spansS y.stream) hs'.room0 hs'.room1
  have o1 : (wishS i x).opts[3]? = some ⟨40, -1, []⟩ := by show (optsS x.room (spansS x.stream))[3]? = _; rw [e]; rfl
  have o2 : (wishS k y).opts[3]? = some ⟨40, -1, []⟩ := by show (optsS y.room (spansS y.stream))[3]? = _; rw [e']; rfl
  rw [clashT_eq hv (by omega) (by rw [taskS_at, hx]; rfl) (by rw [taskS_at, hy]; rfl) o1 o2]
  simp [clashB, meetB]
 unfold lawfulB
 rw [hv]
 have e1 : choiceB (taskS l) (List.replicate l.length (3 : Int)) = true := hc
 have e2 : freeB (taskS l) (List.replicate l.length (3 : Int)) = true := hf
 rw [e1, e2]
 rfl
end Go.Proofs.YtepcdhpikpmepaaGreat
namespace Go.Proofs.YtepcdhpikpmepaaGreat
open Go.RowKit Go.Shelf

def calmAt (l : List StandD) (i k : Nat) : Bool := !(decide ((l[i]?.getD default).room = (l[k]?.getD default).room) && collB (l[i]?.getD default).stream (l[k]?.getD default).stream)
def calmL (l : List StandD) : Bool := (List.range l.length).all fun i => (List.range i).all fun k => calmAt l i k
theorem calmL_iff {l : List StandD} : calmL l = true ↔ ∀ i k, i < l.length → k < i → calmAt l i k = true := by
 unfold calmL
 simp only [List.all_eq_true, List.mem_range]
 exact ⟨fun h i k hi hk => h i hi k hk, fun h i hi k hk => h i k hi hk⟩
theorem opt_zero {x : StandD} (h : StandOk x) (i : Nat) : (wishS i x).opts[0]? = some ⟨0, x.room, spansS x.stream⟩ := by
 obtain ⟨k1, k2, e, _⟩ := optsS_is (spansS x.stream) h.room0 h.room1
 show (optsS x.room (spansS x.stream))[0]? = _
 rw [e]; rfl
theorem clash_zero {l : List StandD} (h : ∀ x ∈ l, StandOk x) (hv : validT (taskS l) = 0) {i k : Nat} (hi : i < l.length) (hk : k < i) : clashT (taskS l) i ((0 : Nat) : Int) k ((0 : Nat) : Int) = !calmAt l i k := by
 obtain ⟨x, hx⟩ : ∃ x, l[i]? = some x := ⟨_, List.getElem?_eq_getElem hi⟩
 obtain ⟨y, hy⟩ : ∃ y, l[k]? = some y := ⟨_, List.getElem?_eq_getElem (by omega)⟩
 have hs := h x (List.mem_of_getElem? hx)
 have hs' := h y (List.mem_of_getElem? hy)
 rw [clashT_eq hv (by omega) (by rw [taskS_at, hx]; rfl) (by rw [taskS_at, hy]; rfl) (opt_zero hs i) (opt_zero hs' k)]
 unfold clashB calmAt
 rw [hx, hy, Option.getD_some, Option.getD_some, coll_meet]
 have := hs.room0
 simp [wishS, shareB, this]
theorem sumF_ge : ∀ (l : List StandD) (i : Nat) (p : List Int), (∀ x ∈ l, StandOk x) → choiceB (taskF i l) p = true → 0 ≤ sumH (taskF i l) p ∧ (sumH (taskF i l) p = 0 → p = List.replicate l.length ((0 : Nat) : Int))
 | [], i, [], _, _ => ⟨Int.le_refl _, fun _ => rfl⟩
 | [], i, k :: p, _, h => by simp [taskF, choiceB] at h
 | x :: r, i, [], _, h => by simp [taskF, choiceB] at h
 | x :: r, i, k :: p, hs, h => by
  rw [taskF, choiceB, Bool.and_eq_true] at h
  obtain ⟨h1, h2⟩ := h
  have hx := hs x List.mem_cons_self
  obtain ⟨g1, g2⟩ := sumF_ge r (i + 1) p (fun y hy => hs y (List.mem_cons_of_mem _ hy)) h2
  obtain ⟨j, rfl, hj⟩ := idxB_nat h1
  obtain ⟨k1, k2, e, _⟩ := optsS_is (spansS x.stream) hx.room0 hx.room1
  have hop : (wishS i x).opts = [⟨0, x.room, spansS x.stream⟩, ⟨3, k1, spansS x.stream⟩, ⟨3, k2, spansS x.stream⟩, ⟨40, -1, []⟩] := e
  rw [taskF, sumH, hop, Int.toNat_natCast]
  rw [hop] at hj
  simp only [List.length_cons, List.length_nil] at hj
  obtain rfl | rfl | rfl | rfl : j = 0 ∨ j = 1 ∨ j = 2 ∨ j = 3 := by omega
  ·refine ⟨?_, fun hz => ?_⟩
   ·show (0 : Int) ≤ 0 + sumH (taskF (i + 1) r) p
    omega
   ·have : (0 : Int) + sumH (taskF (i + 1) r) p = 0 := hz
    rw [g2 (by omega), List.length_cons, List.replicate_succ]
  ·refine ⟨?_, fun hz => ?_⟩
   ·show (0 : Int) ≤ 3 + sumH (taskF (i + 1) r) p
    omega
   ·have : (3 : Int) + sumH (taskF (i + 1) r) p = 0 := hz
    omega
  ·refine ⟨?_, fun hz => ?_⟩
   ·show (0 : Int) ≤ 3 + sumH (taskF (i + 1) r) p
    omega
   ·have : (3 : Int) + sumH (taskF (i + 1) r) p = 0 := hz
    omega
  ·refine ⟨?_, fun hz => ?_⟩
   ·show (0 : Int) ≤ 40 + sumH (taskF (i + 1) r) p
    omega
   ·have : (40 : Int) + sumH (taskF (i + 1) r) p = 0 := hz
    omega
theorem sumF_zero : ∀ (l : List StandD) (i : Nat), (∀ x ∈ l, StandOk x) → sumH (taskF i l) (List.replicate l.length ((0 : Nat) : Int)) = 0
 | [], _, _ => rfl
 | x :: r, i, hs => by
  have hx := hs x List.mem_cons_self
  have h0 := opt_zero hx i
  rw [taskF, List.length_cons, List.replicate_succ, sumH, Int.toNat_natCast, h0, sumF_zero r (i + 1) fun y hy => hs y (List.mem_cons_of_mem _ hy)]
  rfl
theorem calm_harm {l : List StandD} (h : ∀ x ∈ l, StandOk x) (hv : validT (taskS l) = 0) {p : List Int} {q : Int} (hb : bestOf (taskS l) = some (p, q)) : calmL l = decide (q = 0) := by
 obtain ⟨h1, h2, h3⟩ := bestOf_spec hv hb
 obtain ⟨_, hc, hf⟩ := lawful_parts h1
 rw [taskS_is] at hc h2
 obtain ⟨g1, g2⟩ := sumF_ge l 0 p h hc
 rw [Bool.eq_iff_iff, calmL_iff, decide_eq_true_iff]
 constructor
 ·intro hcalm
  have hcz : choiceB (taskS l) (List.replicate l.length ((0 : Nat) : Int)) = true := by rw [taskS_is]; exact same_choice h (by decide) 0
  have hfz : freeB (taskS l) (List.replicate l.length ((0 : Nat) : Int)) = true := free_rep hv (taskS_len l).symm fun i k hi hk => by
   rw [clash_zero h hv hi hk, hcalm i k hi hk]; rfl
  have hl : lawfulB (taskS l) (List.replicate l.length ((0 : Nat) : Int)) = true := by unfold lawfulB; rw [hcz, hfz, hv]; rfl
  have := h3 _ hl
  rw [taskS_is, sumF_zero l 0 h] at this
  omega
 ·intro hq i k hi hk
  have hp := g2 (by omega)
  subst hp
  have := lawful_clash h1 (i := i) (k := k) (by rw [taskS_len]; exact hi) (by rw [taskS_len]; omega)
  rw [atI_some (rep_at hi), atI_some (rep_at (show k < l.length by omega)), clash_zero h hv hi hk] at this
  simpa using this
theorem way_quiet {l : List StandD} (h : ∀ x ∈ l, StandOk x) (hv : validT (taskS l) = 0) {p : List Int} (hl : lawfulB (taskS l) p = true) {n i k a b : Nat} (hn : n ≤ (orderL (taskS l) p).length) (hi : i < l.length) (hk : k < i)
  (ha : atI (afterS (zeros (taskS l).length) ((orderL (taskS l) p).take n)) i = (a : Int)) (hb : atI (afterS (zeros (taskS l).length) ((orderL (taskS l) p).take n)) k = (b : Int)) (h0 : ¬ (a = 0 ∧ b = 0 ∧ n < (orderL (taskS l) p).length))
  (hpl : 0 ≤ placeT (taskS l) i a) (hpe : placeT (taskS l) i a = placeT (taskS l) k b) : collB (l[i]?.getD default).stream (l[k]?.getD default).stream = false := by
 obtain ⟨x, hx⟩ : ∃ x, l[i]? = some x := ⟨_, List.getElem?_eq_getElem hi⟩
 obtain ⟨y, hy⟩ : ∃ y, l[k]? = some y := ⟨_, List.getElem?_eq_getElem (by omega)⟩
 rw [hx, hy, Option.getD_some, Option.getD_some]
 cases hc : collB x.stream y.stream with
 | false => rfl
 | true =>
  have hcl := place_clash h hv hx hy (by omega) hpl hpe hc
  obtain ⟨w1, w2, _, w4, _⟩ := order_spec hl
  have hcalm := (calmWay_iff (calm_zeros _ _) (by simp [zeros]) w2).1 w4 n hn
  by_cases hz : a = 0 ∧ b = 0
  ·have hne : n = (orderL (taskS l) p).length := by
    rcases Nat.lt_or_ge n (orderL (taskS l) p).length with hlt | hge
    ·exact absurd ⟨hz.1, hz.2, hlt⟩ h0
    ·omega
   rw [hne, List.take_length, w1] at ha hb
   have := lawful_clash hl (i := i) (k := k) (by rw [taskS_len]; exact hi) (by rw [taskS_len]; omega)
   rw [ha, hb, hcl] at this
   cases this
  ·have hlen : (afterS (zeros (taskS l).length) ((orderL (taskS l) p).take n)).length = l.length := by
    rw [afterS_len]
    simp [zeros, taskS_len]
   have := calm_iff.1 hcalm i k (by omega) (by omega)
   unfold busyB at this
   rw [ha, hb, hcl, Bool.and_true, Bool.or_eq_false_iff] at this
   simp only [decide_eq_false_iff_not, Decidable.not_not] at this
   exact absurd ⟨by omega, by omega⟩ hz
end Go.Proofs.YtepcdhpikpmepaaGreat
