/- Merged parts: KR, UA. -/
import Derived.Test.YtjglidlmpjmjeaaGreatDoorKQ
import Derived.Test.YtjglidlmpjmjeaaGreatDoorKF
import Derived.Test.YtjglidlmpjmjeaaGreatDoorPM
/- The plain law of certificates of cores. -/
namespace Go.Proofs.YtjglidlmpjmjeaaGreatDoor
open Go.RowKit List

theorem kidsG_quiet {f : Int → OptD → Nat → Res} : ∀ (l : List OptD) (i : Int) (N : Nat), (∀ o ∈ l, ∀ i N, (f i o N).ests = []) → (kidsG f l i N).ests = []
 | [], _, _, _ => rfl
 | o :: r, i, N, h => by
  simp only [kidsG, List.append_eq_nil_iff]
  exact ⟨h o List.mem_cons_self _ _, kidsG_quiet r _ _ fun o' ho => h o' (List.mem_cons_of_mem _ ho)⟩
theorem growL_quiet (t : List WishD) (b : Int) : ∀ (l : List WishD) (pre : List Int) (harm : Int) (N : Nat), (∀ x ∈ l, ∀ o ∈ x.opts, 0 ≤ o.harm ∧ o.harm ≤ 1000000) → harm + 1000000 * l.length < b → (growL t b l pre harm N).ests = []
 | [], pre, harm, N, _, hb => by
  simp only [growL]
  split
  ·rfl
  ·rw [if_neg (by simp at hb; omega)]
 | x :: r, pre, harm, N, h, hb => by
  have h1 := leastSum_bd (x :: r) fun y hy o ho => (h y hy o ho).1
  simp only [growL]
  split
  ·rfl
  ·rw [if_neg (by omega)]
   refine kidsG_quiet _ _ _ fun o ho i N => growL_quiet t b r _ _ _ (fun y hy => h y (List.mem_cons_of_mem _ hy)) ?_
   have := h x List.mem_cons_self o ho
   simp only [List.length_cons] at hb
   omega

/-! ### tasks of selections -/
theorem wishes_sub : ∀ {s t : List WishD} {p : Option Int}, s <+ t → wishesB p t = true → wishesB p s = true := by
 intro s t p hs
 induction hs generalizing p with
 | slnil => exact id
 | cons x hs ih =>
  intro h
  simp only [wishesB, Bool.and_eq_true] at h
  have h2 := ih h.2
  rename_i l1 l2
  cases l1 with
  | nil => rfl
  | cons y l1 =>
   simp only [wishesB, Bool.and_eq_true] at h2 ⊢
   refine ⟨⟨h2.1.1, ?_⟩, h2.2⟩
   cases p with
   | none => rfl
   | some e =>
    have a := h.1.2
    have b := h2.1.2
    simp only [decide_eq_true_eq] at a b ⊢
    omega
 | cons_cons x hs ih =>
  intro h
  simp only [wishesB, Bool.and_eq_true] at h ⊢
  exact ⟨h.1, ih h.2⟩
theorem valid_sub {t s : List WishD} (hv : validT t = 0) (hs : s <+ t) (hn : s ≠ []) : validT s = 0 := by
 obtain ⟨h1, _⟩ := validT_ok hv
 unfold validT at hv ⊢
 rw [h1] at hv
 have hb : tooLargeB s = false := by
  simp only [tooLargeB, Bool.or_eq_false_iff, decide_eq_false_iff_not, List.any_eq_false] at h1 ⊢
  exact ⟨by have := hs.length_le; omega, fun x hx => h1.2 x (hs.subset hx)⟩
 rw [hb]
 simp only [Bool.false_eq_true, if_false] at hv ⊢
 cases hw : wishesB none t with
 | false => rw [hw] at hv; simp at hv
 | true =>
  rw [wishes_sub hs hw]
  have : 0 < s.length := List.length_pos_iff.2 hn
  simp [this]
theorem subT_up_sub {t : List WishD} {l : List Int} (h : l <+ upI t.length) : subT t l <+ t := by
 have := subT_sub (t := t) h
 rwa [subT_up] at this
theorem subT_valid {t : List WishD} {l : List Int} (hv : validT t = 0) (h : l <+ upI t.length) (hn : l ≠ []) : validT (subT t l) = 0 :=
 valid_sub hv (subT_up_sub h) (by
  intro e
  have := congrArg List.length e
  rw [sub_len] at this
  exact hn (List.length_eq_zero_iff.1 this))
theorem selB_of : ∀ {n : Nat} {l : List Int} {last : Int}, l.Pairwise (· < ·) → (∀ x ∈ l, last < x ∧ x < n) → selB n last l = true
 | _, [], _, _, _ => rfl
 | n, x :: l, last, h, hx => by
  rw [List.pairwise_cons] at h
  have := hx x List.mem_cons_self
  simp only [selB, Bool.and_eq_true, decide_eq_true_eq]
  exact ⟨this, selB_of h.2 fun y hy => ⟨h.1 y hy, (hx y (List.mem_cons_of_mem _ hy)).2⟩⟩
theorem selB_up : ∀ {n : Nat} {l : List Int} {last : Int}, -1 ≤ last → selB n last l = true → l.Pairwise (· < ·) ∧ ∀ x ∈ l, last < x
 | _, [], _, _, _ => ⟨List.Pairwise.nil, fun _ h => by cases h⟩
 | n, x :: l, last, h0, h => by
  simp only [selB, Bool.and_eq_true, decide_eq_true_eq] at h
  obtain ⟨h1, h2⟩ := selB_up (l := l) (by omega) h.2
  refine ⟨List.pairwise_cons.2 ⟨h2, h1⟩, fun y hy => ?_⟩
  rcases List.mem_cons.1 hy with rfl | hy
  ·exact h.1.1
  ·have := h2 y hy; omega
theorem up_mem {n : Nat} {x : Int} : x ∈ upI n ↔ 0 ≤ x ∧ x < n := by
 unfold upI
 rw [List.mem_map]
 constructor
 ·rintro ⟨k, hk, rfl⟩
  have := List.mem_range.1 hk
  omega
 ·intro h
  exact ⟨x.toNat, List.mem_range.2 (by omega), by omega⟩
theorem selB_iff {n : Nat} {l : List Int} : selB n (-1) l = true ↔ l <+ upI n := by
 constructor
 ·intro h
  refine rise_sub (upI_sorted n) (selB_up (by omega) h).1 fun x hx => up_mem.2 ?_
  have := selB_idx (by omega) h x hx
  simpa [idxB] using this
 ·intro h
  refine selB_of ((upI_sorted n).sublist h) fun x hx => ?_
  have := up_mem.1 (h.subset hx)
  omega
theorem checkI_sel {t : List WishD} {l : List Int} (hv : validT t = 0) (h : l <+ upI t.length) : checkI t l = 0 := by
 unfold checkI
 rw [if_pos hv, selB_iff.2 h]
 rfl
theorem StandsT_sel {t : List WishD} {l : List Int} (hs : SmallT t) (hv : validT t = 0) (h : l <+ upI t.length) : StandsT t l = (selSt t l, 0) := by
 unfold StandsT
 rw [if_pos (checkI_sel hv h), hs.stands h]

/-! ### Show -/
def showT (t : List WishD) (l : List Int) : List NodeD × Int :=
 if checkI t l = 0 then (if l.length = 0 then ([], 1) else if (standsT t l).2 ≠ 0 then ([], (standsT t l).2) else if (standsT t l).1 then ([], 4) else ((growL (subT t l) 1000000000 (subT t l) [] 0 0).nodes, 0)) else ([], checkI t l)
theorem not_standB {s : List WishD} (h : standB s = false) : lawfulL s = [] := by
 unfold standB at h
 cases hl : lawfulL s with
 | nil => rfl
 | cons a b => rw [hl] at h; simp at h
theorem grow_opens {s : List WishD} (h : standB s = false) (b : Int) : (growL s b s [] 0 0).opens = [] := by
 rw [opens_lawful, not_standB h]
 rfl
theorem few_of {t : List WishD} (hv : validT t = 0) : t.length ≤ 512 := by
 have := tooLarge_len (validT_ok hv).1
 omega
theorem grow_ests {s : List WishD} (hv : validT s = 0) : (growL s 1000000000 s [] 0 0).ests = [] :=
 growL_quiet s _ s [] 0 0 (harms_of hv) (by have := few_of hv; omega)
theorem show_core {t : List WishD} (hs : SmallT t) (hv : validT t = 0) {l : List Int} (h : l <+ upI t.length) (hn : l ≠ []) (hst : selSt t l = false) :
  showT t l = ((growL (subT t l) 1000000000 (subT t l) [] 0 0).nodes, 0) := by
 unfold showT
 rw [if_pos (checkI_sel hv h), if_neg (fun e => hn (List.length_eq_zero_iff.1 e)), hs.stands h, hst]
 rfl
theorem show_stands {t : List WishD} (hs : SmallT t) (hv : validT t = 0) {l : List Int} (h : l <+ upI t.length) (hn : l ≠ []) (hst : selSt t l = true) : showT t l = ([], 4) := by
 unfold showT
 rw [if_pos (checkI_sel hv h), if_neg (fun e => hn (List.length_eq_zero_iff.1 e)), hs.stands h, hst]
 rfl
theorem show_empty {t : List WishD} (hv : validT t = 0) : showT t [] = ([], 1) := by
 unfold showT
 rw [if_pos (checkI_sel hv (List.nil_sublist _))]
 rfl
theorem cert_core {t : List WishD} (hs : SmallT t) (hv : validT t = 0) {l : List Int} (h : l <+ upI t.length) (hn : l ≠ []) (hst : selSt t l = false) :
  checkT (subT t l) 1000000000 (growL (subT t l) 1000000000 (subT t l) [] 0 0).nodes = 0 := by
 have hv' := subT_valid hv h hn
 refine check_grow hv' (hs.tree (up_idx h) (Nat.le_trans (up_len h) hs.len)) ?_ ?_
 ·rw [grow_ests hv']; intro e he; cases he
 ·rw [grow_opens hst]; intro e he; cases he
theorem cert_stands {t : List WishD} (hv : validT t = 0) {l : List Int} (h : l <+ upI t.length) (hn : l ≠ []) (hst : selSt t l = true) (c : List NodeD) : checkT (subT t l) 1000000000 c ≠ 0 := by
 intro he
 have hv' := subT_valid hv h hn
 obtain ⟨p, h1, h2⟩ := stand_choice.1 (standB_iff.1 hst)
 have h3 := check_sound he (p := p) (by simp [lawfulB, hv', h1, h2])
 have h4 := sumH_bd (harms_of hv') h1
 have := few_of hv'
 omega
theorem lack_is {t : List WishD} (hs : SmallT t) {l : List Int} (h : l <+ upI t.length) : ∀ (ks : List Nat), lackI t l ks = if (ks.all fun k => selSt t (l.eraseIdx k)) = true then 0 else 11
 | [] => rfl
 | k :: ks => by
  simp only [lackI]
  rw [hs.stands ((List.eraseIdx_sublist l k).trans h)]
  simp only [ne_eq, not_true_eq_false, if_false, List.all_cons, Bool.and_eq_true]
  cases selSt t (l.eraseIdx k) with
  | true => simp [lack_is hs h ks]
  | false => simp
theorem coreCheck_is {t : List WishD} (hs : SmallT t) (hv : validT t = 0) {l : List Int} (h : l <+ upI t.length) (hn : l ≠ []) (c : List NodeD) :
  coreCheckT t l c = if checkT (subT t l) 1000000000 c = 0 then (if ((List.range l.length).all fun k => selSt t (l.eraseIdx k)) = true then 0 else 11) else checkT (subT t l) 1000000000 c := by
 unfold coreCheckT
 rw [if_pos (checkI_sel hv h), if_neg (fun e => hn (List.length_eq_zero_iff.1 e)), lack_is hs h]
end Go.Proofs.YtjglidlmpjmjeaaGreatDoor

/- The plain laws of the laws of cores: selections by bits, made tasks, tasks with one more option, all cores. -/
namespace Go.Proofs.YtjglidlmpjmjeaaGreatDoor
open Go.RowKit List

/-! ### selections by bits -/
theorem peopleTo_sub (b : Int) (n : Nat) : peopleTo b n <+ upI n := by
 unfold peopleTo upI
 exact (List.filter_sublist).map _

/-! ### made tasks -/
def wish34 (i : Nat) (x : RawD) : WishD := { wishT 0 x with meeting := 10 + i }
def made34From : Nat → List RawD → List WishD
 | _, [] => []
 | i, x :: r => if i < 6 then wish34 i x :: made34From (i + 1) r else []
def made34 (l : List RawD) : List WishD := if l.length = 0 then madeT [] else made34From 0 l
theorem made34From_step {i : Nat} {x : RawD} {r : List RawD} (h : i < 6) : made34From i (x :: r) = wish34 i x :: made34From (i + 1) r := by simp [made34From, h]
theorem made34From_stop {i : Nat} (h : ¬ i < 6) : ∀ (l : List RawD), made34From i l = []
 | [] => rfl
 | x :: r => by simp [made34From, h]
theorem wish34_ok {i : Nat} {x : RawD} (h : ∀ y ∈ x.opts, OctOk y) : wishOkB (wish34 i x) = true := by
 have h1 := wishT_ok (i := 0) (by omega) h
 simp only [wishOkB, Bool.and_eq_true, decide_eq_true_eq] at h1 ⊢
 exact ⟨⟨⟨h1.1.1.1, by show (1 : Int) ≤ 10 + (i : Int); omega⟩, h1.1.2⟩, h1.2⟩
theorem made34From_ok : ∀ (l : List RawD) (i : Nat) (p : Option Int), RawsOk l → (match p with | none => True | some e => e < 10 + (i : Int)) → wishesB p (made34From i l) = true
 | [], _, _, _, _ => rfl
 | x :: r, i, p, h, hp => by
  by_cases hi : i < 6
  ·rw [made34From_step hi]
   have h1 := wish34_ok (i := i) (h x List.mem_cons_self).2
   have ih := made34From_ok r (i + 1) (some (10 + (i : Int))) (fun y hy => h y (List.mem_cons_of_mem _ hy)) (by dsimp only; omega)
   have e2 : (wish34 i x).meeting = 10 + (i : Int) := rfl
   simp only [wishesB, h1, e2, ih, Bool.and_true, Bool.true_and]
   cases p with
   | none => rfl
   | some e => simpa using hp
  ·rw [made34From_stop hi]; rfl
theorem made34From_len : ∀ (l : List RawD) (i : Nat), (made34From i l).length ≤ 6 - i
 | [], _ => by simp [made34From]
 | x :: r, i => by
  by_cases hi : i < 6
  ·rw [made34From_step hi]
   have := made34From_len r (i + 1)
   simp only [List.length_cons]
   omega
  ·rw [made34From_stop hi]; simp
theorem made34From_mem : ∀ {l : List RawD} {i : Nat} {x : WishD}, x ∈ made34From i l → ∃ j y, j < 6 ∧ y ∈ l ∧ x = wish34 j y
 | [], _, x, h => by cases h
 | y :: r, i, x, h => by
  by_cases hi : i < 6
  ·rw [made34From_step hi] at h
   rcases List.mem_cons.1 h with rfl | h
   ·exact ⟨i, y, hi, List.mem_cons_self, rfl⟩
   ·obtain ⟨j, z, h1, h2, h3⟩ := made34From_mem h
    exact ⟨j, z, h1, List.mem_cons_of_mem _ h2, h3⟩
  ·rw [made34From_stop hi] at h; cases h
theorem made34_opts {l : List RawD} (h : RawsOk l) {x : WishD} (hx : x ∈ made34 l) : 0 < x.opts.length ∧ x.opts.length ≤ 4 ∧ x.people.length ≤ 5 ∧ ∀ o ∈ x.opts, o.spans.length ≤ 2 := by
 unfold made34 at hx
 split at hx
 ·obtain ⟨h1, h2, h3, h4⟩ := made_opts (l := []) (fun _ h => by cases h) hx
  exact ⟨h1, h2, h3, fun o ho => (h4 o ho).1⟩
 ·obtain ⟨j, y, h1, h2, rfl⟩ := made34From_mem hx
  obtain ⟨a, b, c⟩ := wishT_opts (i := 0) (by omega) (h y h2).2
  refine ⟨b, c, (peopleTo_ok y.people).2, fun o ho => ?_⟩
  obtain ⟨z, hz, rfl⟩ := a o ho
  exact (spansT_ok hz).2
theorem made34_len {l : List RawD} : 0 < (made34 l).length ∧ (made34 l).length ≤ 6 := by
 unfold made34
 split
 ·have := made_len (l := []); omega
 ·have := made34From_len l 0
  refine ⟨?_, by omega⟩
  cases l with
  | nil => simp at *
  | cons x r => simp [made34From]
theorem made34_valid {l : List RawD} (h : RawsOk l) : validT (made34 l) = 0 := by
 have hlen := made34_len (l := l)
 have hbig : tooLargeB (made34 l) = false := by
  simp only [tooLargeB, Bool.or_eq_false_iff, decide_eq_false_iff_not, List.any_eq_false]
  refine ⟨by omega, fun x hx => ?_⟩
  obtain ⟨h1, h2, h3, h4⟩ := made34_opts h hx
  simp only [Bool.or_eq_true, decide_eq_true_eq, List.any_eq_true, not_or, not_exists, not_and]
  refine ⟨⟨by omega, by omega⟩, fun o ho => ?_⟩
  have := h4 o ho
  omega
 have hok : wishesB none (made34 l) = true := by
  unfold made34
  split
  ·decide
  ·exact made34From_ok l 0 none h trivial
 unfold validT
 rw [hbig, hok]
 simp
 intro he
 rw [he] at hlen
 simp at hlen
theorem made34_small {l : List RawD} (h : RawsOk l) : SmallT (made34 l) :=
 ⟨made34_len.2, fun x hx => by have := made34_opts h hx; omega⟩

/-! ### standing, by places -/
theorem zip_back {α : Type} {f : α → WishD} : ∀ (q : List (WishD × OptD)) (l : List α), q.map Prod.fst = l.map f → ∃ c : List (α × OptD), c.map Prod.fst = l ∧ c.map (fun r => (f r.1, r.2)) = q
 | [], [], _ => ⟨[], rfl, rfl⟩
 | [], _ :: _, h => by simp at h
 | _ :: _, [], h => by simp at h
 | (x, o) :: q, i :: l, h => by
  simp only [List.map_cons, List.cons.injEq] at h
  obtain ⟨c, h1, h2⟩ := zip_back q l h.2
  exact ⟨(i, o) :: c, by simp [h1], by simp [h2, h.1]⟩
theorem stand_map {α : Type} {f : α → WishD} {l : List α} : StandP (l.map f) ↔ ∃ c : List (α × OptD), c.map Prod.fst = l ∧ (∀ r ∈ c, r.2 ∈ (f r.1).opts) ∧ c.Pairwise fun a b => clashB (f a.1) (f b.1) a.2 b.2 = false := by
 constructor
 ·rintro ⟨q, h1, h2, h3⟩
  obtain ⟨c, h4, rfl⟩ := zip_back q l h1
  refine ⟨c, h4, fun r hr => h2 (f r.1, r.2) (List.mem_map.2 ⟨r, hr, rfl⟩), ?_⟩
  rw [List.pairwise_map] at h3
  exact h3
 ·rintro ⟨c, rfl, h2, h3⟩
  refine ⟨c.map fun r => (f r.1, r.2), by simp, fun r hr => ?_, ?_⟩
  ·obtain ⟨s, hs, rfl⟩ := List.mem_map.1 hr
   exact h2 s hs
  ·rw [List.pairwise_map]
   exact h3
theorem clash_people {a b a' b' : WishD} {x y : OptD} (ha : a'.people = a.people) (hb : b'.people = b.people) : clashB a' b' x y = clashB a b x y := by
 unfold clashB
 rw [ha, hb]
theorem StandP.more {α : Type} {f g : α → WishD} {l : List α} (h : StandP (l.map f)) (hg : ∀ i ∈ l, (g i).people = (f i).people ∧ ∀ o ∈ (f i).opts, o ∈ (g i).opts) : StandP (l.map g) := by
 obtain ⟨c, rfl, h2, h3⟩ := stand_map.1 h
 have hm : ∀ r ∈ c, r.1 ∈ c.map Prod.fst := fun r hr => List.mem_map.2 ⟨r, hr, rfl⟩
 refine stand_map.2 ⟨c, rfl, fun r hr => (hg r.1 (hm r hr)).2 _ (h2 r hr), ?_⟩
 refine h3.imp_of_mem ?_
 intro a b ha hb h
 rwa [clash_people (hg a.1 (hm a ha)).1 (hg b.1 (hm b hb)).1]
theorem meetB_nil_right (l : List (Int × Int)) : meetB l [] = false := by
 unfold meetB
 rw [List.any_eq_false]
 intro x _
 simp
theorem StandP.free {α : Type} {f : α → WishD} {l : List α} {j : Nat} (hj : j < l.length) (h : StandP ((l.eraseIdx j).map f)) {o : OptD} (ho : o ∈ (f l[j]).opts) (hs : o.spans = []) : StandP (l.map f) := by
 obtain ⟨c, h1, h2, h3⟩ := stand_map.1 h
 rw [List.eraseIdx_eq_take_drop_succ] at h1
 obtain ⟨c1, c2, rfl, e1, e2⟩ := List.map_eq_append_iff.1 h1
 refine stand_map.2 ⟨c1 ++ (l[j], o) :: c2, ?_, ?_, ?_⟩
 ·rw [List.map_append, List.map_cons, e1, e2, List.getElem_cons_drop, List.take_append_drop]
 ·intro r hr
  rcases List.mem_append.1 hr with hr | hr
  ·exact h2 r (List.mem_append_left _ hr)
  ·rcases List.mem_cons.1 hr with rfl | hr
   ·exact ho
   ·exact h2 r (List.mem_append_right _ hr)
 ·rw [List.pairwise_append] at h3 ⊢
  refine ⟨h3.1, List.pairwise_cons.2 ⟨fun b _ => ?_, h3.2.1⟩, fun a ha b hb => ?_⟩
  ·simp [clashB, hs, meetB]
  ·rcases List.mem_cons.1 hb with rfl | hb
   ·simp [clashB, hs, meetB_nil_right]
   ·exact h3.2.2 a ha b hb

/-! ### a task with one more option -/
def addO (x : WishD) (o : OptD) : WishD := { x with opts := x.opts ++ [o] }
def moreT (t : List WishD) (k : Nat) (o : OptD) : List WishD := t.set k (addO (t[k]?.getD default) o)
theorem moreT_len (t : List WishD) (k : Nat) (o : OptD) : (moreT t k o).length = t.length := by simp [moreT]
theorem moreT_at (t : List WishD) (k : Nat) (o : OptD) (i : Nat) (hi : i < t.length) : ((moreT t k o)[i]?.getD default) = if i = k then addO (t[i]?.getD default) o else t[i]?.getD default := by
 unfold moreT
 rw [List.getElem?_set]
 by_cases h : k = i
 ·subst h
  simp [hi]
 ·rw [if_neg h, if_neg (fun e => h e.symm)]
theorem moreT_mem {t : List WishD} {k : Nat} {o : OptD} (hk : k < t.length) {x : WishD} (hx : x ∈ moreT t k o) : x ∈ t ∨ ∃ y ∈ t, x = addO y o := by
 unfold moreT at hx
 rw [List.getElem?_eq_getElem hk, Option.getD_some] at hx
 rcases List.mem_or_eq_of_mem_set hx with h | h
 ·exact Or.inl h
 ·exact Or.inr ⟨_, List.getElem_mem hk, h⟩
theorem wishes_set : ∀ {t : List WishD} {p : Option Int} {k : Nat} {x y : WishD}, wishesB p t = true → t[k]? = some x → y.meeting = x.meeting → wishOkB y = true → wishesB p (t.set k y) = true
 | [], _, _, _, _, _, hk, _, _ => by simp at hk
 | z :: t, p, 0, x, y, h, hk, hm, hy => by
  simp only [List.getElem?_cons_zero, Option.some.injEq] at hk
  subst hk
  simp only [List.set_cons_zero, wishesB, Bool.and_eq_true] at h ⊢
  rw [hm]
  exact ⟨⟨hy, h.1.2⟩, h.2⟩
 | z :: t, p, k + 1, x, y, h, hk, hm, hy => by
  simp only [List.getElem?_cons_succ] at hk
  simp only [List.set_cons_succ, wishesB, Bool.and_eq_true] at h ⊢
  exact ⟨h.1, wishes_set h.2 hk hm hy⟩
theorem wishes_mem : ∀ {t : List WishD} {p : Option Int} {x : WishD}, wishesB p t = true → x ∈ t → wishOkB x = true
 | [], _, _, _, hx => by cases hx
 | z :: t, p, x, h, hx => by
  simp only [wishesB, Bool.and_eq_true] at h
  rcases List.mem_cons.1 hx with rfl | hx
  ·exact h.1.1
  ·exact wishes_mem h.2 hx
theorem valid_wishes {t : List WishD} (hv : validT t = 0) : wishesB none t = true := by
 unfold validT at hv
 rw [(validT_ok hv).1] at hv
 cases hw : wishesB none t with
 | true => rfl
 | false => rw [hw] at hv; simp at hv
theorem moreT_valid {t : List WishD} {k : Nat} {o : OptD} (hv : validT t = 0) (hk : k < t.length) (h4 : ∀ x ∈ t, x.opts.length ≤ 15) (ho : optOkB o = true) (hs : o.spans.length ≤ 64) : validT (moreT t k o) = 0 := by
 have h1 := (validT_ok hv).1
 have hw := valid_wishes hv
 have hb : tooLargeB (moreT t k o) = false := by
  simp only [tooLargeB, Bool.or_eq_false_iff, decide_eq_false_iff_not, List.any_eq_false] at h1 ⊢
  refine ⟨by rw [moreT_len]; exact h1.1, fun x hx => ?_⟩
  rcases moreT_mem hk hx with hx | ⟨y, hy, rfl⟩
  ·exact h1.2 x hx
  ·have := h1.2 y hy
   have h15 := h4 y hy
   simp only [Bool.or_eq_true, decide_eq_true_eq, List.any_eq_true, not_or, not_exists, not_and, addO, List.length_append, List.length_cons, List.length_nil, List.mem_append, List.mem_singleton] at this ⊢
   refine ⟨⟨by simp; omega, by rw [Bool.not_eq_true]; exact decide_eq_false this.1.2⟩, fun z hz => ?_⟩
   rcases hz with hz | rfl
   ·exact this.2 z hz
   ·omega
 have hx : t[k]? = some t[k] := List.getElem?_eq_getElem hk
 have hok := wishes_mem hw (List.getElem_mem hk)
 have hw' : wishesB none (moreT t k o) = true := by
  unfold moreT
  rw [hx, Option.getD_some]
  refine wishes_set hw hx rfl ?_
  simp only [wishOkB, addO, Bool.and_eq_true, decide_eq_true_eq, List.length_append, List.length_cons, List.length_nil, List.all_append, List.all_cons, List.all_nil, Bool.and_true] at hok ⊢
  exact ⟨⟨⟨hok.1.1.1, decide_eq_true hok.1.1.2⟩, by simp⟩, hok.2, ho⟩
 unfold validT
 rw [hb, hw']
 have : 0 < (moreT t k o).length := by rw [moreT_len]; omega
 simp [this]
theorem moreT_small {t : List WishD} {k : Nat} {o : OptD} (hk : k < t.length) (h6 : t.length ≤ 6) (h4 : ∀ x ∈ t, 0 < x.opts.length ∧ x.opts.length ≤ 4) : SmallT (moreT t k o) := by
 refine ⟨by rw [moreT_len]; exact h6, fun x hx => ?_⟩
 rcases moreT_mem hk hx with hx | ⟨y, hy, rfl⟩
 ·have := h4 x hx; omega
 ·have := h4 y hy
  simp [addO]
  omega
theorem selSt_more {t : List WishD} {k : Nat} {o : OptD} {l : List Int} (hl : l <+ upI t.length) (h : selSt t l = true) : selSt (moreT t k o) l = true := by
 refine standB_iff.2 ((standB_iff.1 h).more fun i hi => ?_)
 obtain ⟨n, rfl, hn⟩ := idxB_nat (up_idx hl i hi)
 rw [Int.toNat_natCast, moreT_at t k o n hn]
 split
 ·exact ⟨rfl, fun o' ho' => List.mem_append_left _ ho'⟩
 ·exact ⟨rfl, fun _ h => h⟩
theorem harmless {t : List WishD} {k : Nat} {o : OptD} (hk : k < t.length) (hs : o.spans = []) {l : List Int} (hc : CoreP (moreT t k o) l) : (k : Int) ∉ l := by
 intro hm
 obtain ⟨j, hj, e⟩ := List.mem_iff_getElem.1 hm
 have h := standB_iff.1 (hc.2 j hj)
 have h2 : StandP (subT (moreT t k o) l) := by
  refine StandP.free (o := o) hj h ?_ hs
  rw [e, Int.toNat_natCast, moreT_at t k o k hk, if_pos rfl]
  exact List.mem_append_right _ (List.mem_singleton.2 rfl)
 have h3 := standB_iff.2 h2
 have := hc.1
 unfold selSt at this
 rw [this] at h3
 cases h3

/-! ### all cores -/
def allC (t : List WishD) : List (List Int) := (sels t.length).filter (coreB t)
theorem mem_allC {t : List WishD} {l : List Int} : l ∈ allC t ↔ l <+ upI t.length ∧ CoreP t l := by
 unfold allC
 rw [List.mem_filter, mem_sels, coreB_iff]
theorem allC_none {t : List WishD} : allC t = [] ↔ standB t = true := by
 constructor
 ·intro h
  cases hs : standB t with
  | true => rfl
  | false =>
   rw [← selSt_up] at hs
   obtain ⟨L, h1, h2⟩ := core_in _ _ (Nat.le_refl _) hs
   have : L ∈ allC t := mem_allC.2 ⟨h1, h2⟩
   rw [h] at this
   cases this
 ·intro hs
  rw [← selSt_up] at hs
  refine List.eq_nil_iff_forall_not_mem.2 fun L hL => ?_
  obtain ⟨h1, h2⟩ := mem_allC.1 hL
  have := selSt_sub hs h1
  rw [h2.1] at this
  cases this
theorem core_eq {t : List WishD} {a b : List Int} (ha : CoreP t a) (hb : CoreP t b) (h : b <+ a) : b = a := by
 by_cases hl : b.length < a.length
 ·obtain ⟨k, hk, h2⟩ := sub_erase h hl
  have := selSt_sub (ha.2 k hk) h2
  rw [hb.1] at this
  cases this
 ·exact h.eq_of_length (by have := h.length_le; omega)
theorem allC_apart {t : List WishD} {i k : Nat} {a b : List Int} (ha : (allC t)[i]? = some a) (hb : (allC t)[k]? = some b) (hik : i ≠ k) : ¬ b <+ a := by
 intro h
 have e := core_eq (mem_allC.1 (List.mem_of_getElem? ha)).2 (mem_allC.1 (List.mem_of_getElem? hb)).2 h
 subst e
 have hs : (allC t).Pairwise selLt := (sels_sorted t.length).filter _
 obtain ⟨hi, e1⟩ := List.getElem?_eq_some_iff.1 ha
 obtain ⟨hk, e2⟩ := List.getElem?_eq_some_iff.1 hb
 rw [List.pairwise_iff_getElem] at hs
 rcases Nat.lt_or_gt_of_ne hik with h1 | h1
 ·have := hs i k hi hk h1
  rw [e1, e2] at this
  exact selLt.irrefl _ this
 ·have := hs k i hk hi h1
  rw [e1, e2] at this
  exact selLt.irrefl _ this
theorem stands_none {t : List WishD} {l : List Int} (hl : l <+ upI t.length) : selSt t l = !((allC t).any fun c => c.isSublist l) := by
 cases hs : selSt t l with
 | true =>
  rw [eq_comm, Bool.not_eq_true', List.any_eq_false]
  intro c hc
  rw [List.isSublist_iff_sublist]
  intro h
  have := selSt_sub hs h
  rw [(mem_allC.1 hc).2.1] at this
  cases this
 | false =>
  obtain ⟨L, h1, h2⟩ := core_in _ _ (Nat.le_refl _) hs
  rw [eq_comm, Bool.not_eq_false', List.any_eq_true]
  exact ⟨L, mem_allC.2 ⟨h1.trans hl, h2⟩, List.isSublist_iff_sublist.2 h1⟩
theorem of_is {t : List WishD} (h : SmallT t) (hv : validT t = 0) : ∃ L, ofT t = (L, !standB t, 0) ∧ (standB t = true → L = []) ∧ (standB t = false → L ∈ allC t) := by
 cases hs : standB t with
 | true => exact ⟨[], by rw [of_stands h hv hs]; rfl, fun _ => rfl, fun e => by cases e⟩
 | false =>
  obtain ⟨L, h1, h2, h3⟩ := of_core h hv hs
  exact ⟨L, h1, (fun e => by cases e), fun _ => mem_allC.2 ⟨h2, h3⟩⟩
end Go.Proofs.YtjglidlmpjmjeaaGreatDoor
