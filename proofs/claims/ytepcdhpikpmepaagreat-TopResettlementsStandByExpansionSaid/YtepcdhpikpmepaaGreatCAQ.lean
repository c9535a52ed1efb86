import Derived.Test.YtepcdhpikpmepaaGreatPLQ
import Derived.Deep.Cut
namespace Go.Proofs.YtepcdhpikpmepaaGreat
open Go.RowKit

/-! ### states and steps -/
abbrev StepD := Int × Int
def atI (l : List Int) (i : Nat) : Int := l[i]?.getD 0
def stepS (st : List Int) (s : StepD) : List Int := st.set s.1.toNat s.2
def afterS (st : List Int) (l : List StepD) : List Int := l.foldl stepS st
def zeros (n : Nat) : List Int := List.replicate n 0
def stepOkB (t : List WishD) (s : StepD) : Bool := idxB s.1 t.length && decide (-1 ≤ s.2) && decide (s.2 < ((t[s.1.toNat]?.getD default).opts.length : Int))
def stepsT (t : List WishD) (l : List StepD) : Int := if validT t = 0 then (if l.all (stepOkB t) then (if 1024 < l.length then 2 else 0) else 1) else validT t

theorem atI_some {l : List Int} {i : Nat} {x : Int} (h : l[i]? = some x) : atI l i = x := by simp [atI, h]
theorem atI_set {l : List Int} {i : Nat} (h : i < l.length) (v : Int) : atI (l.set i v) i = v := by simp [atI, h]
theorem atI_set_ne {l : List Int} {i k : Nat} (h : i ≠ k) (v : Int) : atI (l.set i v) k = atI l k := by simp [atI, List.getElem?_set_ne h]
theorem atI_zeros (n i : Nat) : atI (zeros n) i = 0 := by
 unfold atI zeros
 rw [List.getElem?_replicate]
 split <;> rfl
theorem get_atI {l : List Int} {i : Nat} (h : i < l.length) : l[i]? = some (atI l i) := by simp [atI, h]
theorem ext_atI {a b : List Int} (hl : a.length = b.length) (h : ∀ i, i < a.length → atI a i = atI b i) : a = b := by
 apply List.ext_getElem? 
 intro i
 by_cases hi : i < a.length
 ·rw [get_atI hi, get_atI (by omega), h i hi]
 ·rw [List.getElem?_eq_none (by omega), List.getElem?_eq_none (by omega)]
theorem stepS_len (st : List Int) (s : StepD) : (stepS st s).length = st.length := by simp [stepS]
theorem afterS_len : ∀ (l : List StepD) (st : List Int), (afterS st l).length = st.length
 | [], _ => rfl
 | s :: l, st => by
  show (afterS (stepS st s) l).length = _
  rw [afterS_len l, stepS_len]
theorem afterS_snoc (st : List Int) (l : List StepD) (s : StepD) : afterS st (l ++ [s]) = stepS (afterS st l) s := by simp [afterS]
theorem afterS_cons (st : List Int) (l : List StepD) (s : StepD) : afterS st (s :: l) = afterS (stepS st s) l := rfl

/-! ### clashes in a state -/
theorem clashT_comm (t : List WishD) (a i b k : Int) : clashT t a i b k = clashT t b k a i := by
 have e : decide (a ≠ b) = decide (b ≠ a) := by
  by_cases h : a = b
  ·simp [h]
  ·have h' : ¬ b = a := fun e => h e.symm
   simp [h, h']
 unfold clashT
 rw [e]
 congr 1
 cases optAt t a i with
 | none => cases optAt t b k <;> rfl
 | some x =>
  cases optAt t b k with
  | none => rfl
  | some y => exact clashB_comm _ _ _ _
theorem clashT_neg (t : List WishD) (a b : Nat) (i k : Int) (h : i < 0) : clashT t a i b k = false := by
 have e : optAt t a i = none := by
  unfold optAt
  split
  ·cases t[((a : Int)).toNat]? with
   | none => rfl
   | some x => simp [idxB]; omega
  ·rfl
 unfold clashT
 rw [e]
 simp

def busyB (t : List WishD) (st : List Int) (i k : Nat) : Bool := (decide (atI st k ≠ 0) || decide (atI st i ≠ 0)) && clashT t i (atI st i) k (atI st k)
def quietB (t : List WishD) (st : List Int) (i : Nat) : Bool := (List.range st.length).all fun k => !busyB t st i k
def calmB (t : List WishD) (st : List Int) : Bool := (List.range st.length).all fun i => (List.range i).all fun k => !busyB t st i k

theorem busy_comm (t : List WishD) (st : List Int) (i k : Nat) : busyB t st i k = busyB t st k i := by
 unfold busyB
 rw [clashT_comm t i, Bool.or_comm]
theorem busy_self (t : List WishD) (st : List Int) (i : Nat) : busyB t st i i = false := by simp [busyB, clashT_same]
theorem busy_zero {t : List WishD} {st : List Int} {i k : Nat} (h1 : atI st i = 0) (h2 : atI st k = 0) : busyB t st i k = false := by simp [busyB, h1, h2]
theorem busy_no {t : List WishD} {st : List Int} {i k : Nat} (h : clashT t i (atI st i) k (atI st k) = false) : busyB t st i k = false := by simp [busyB, h]
theorem quiet_iff {t : List WishD} {st : List Int} {i : Nat} : quietB t st i = true ↔ ∀ k, k < st.length → busyB t st i k = false := by simp [quietB]
theorem calm_iff {t : List WishD} {st : List Int} : calmB t st = true ↔ ∀ i k, i < st.length → k < st.length → busyB t st i k = false := by
 constructor
 ·intro h i k hi hk
  simp only [calmB, List.all_eq_true, List.mem_range, Bool.not_eq_true'] at h
  rcases Nat.lt_trichotomy i k with hc | rfl | hc
  ·rw [busy_comm]; exact h k hk i hc
  ·exact busy_self _ _ _
  ·exact h i hi k hc
 ·intro h
  simp only [calmB, List.all_eq_true, List.mem_range, Bool.not_eq_true']
  intro i hi k hk
  exact h i k hi (by omega)
theorem busy_set {t : List WishD} {st : List Int} {i a b : Nat} (ha : i ≠ a) (hb : i ≠ b) (v : Int) : busyB t (st.set i v) a b = busyB t st a b := by
 unfold busyB
 rw [atI_set_ne ha, atI_set_ne hb]
theorem calm_set {t : List WishD} {st : List Int} {i : Nat} (h : calmB t st = true) (hi : i < st.length) (v : Int) : calmB t (st.set i v) = quietB t (st.set i v) i := by
 rw [Bool.eq_iff_iff]
 rw [calm_iff] at h
 rw [calm_iff, quiet_iff]
 constructor
 ·intro g k hk
  exact g i k (by simpa using hi) hk
 ·intro g a b ha hb
  by_cases h1 : i = a
  ·subst h1; exact g b hb
  ·by_cases h2 : i = b
   ·subst h2; rw [busy_comm]; exact g a ha
   ·rw [busy_set h1 h2]
    exact h a b (by simpa using ha) (by simpa using hb)
theorem calm_zeros (t : List WishD) (n : Nat) : calmB t (zeros n) = true := calm_iff.2 fun _ _ _ _ => busy_zero (atI_zeros _ _) (atI_zeros _ _)
theorem calm_park {t : List WishD} {st : List Int} {i : Nat} (hi : i < st.length) : quietB t (st.set i (-1)) i = true := by
 rw [quiet_iff]
 intro k _
 refine busy_no ?_
 rw [atI_set hi]
 exact clashT_neg _ _ _ _ _ (by decide)

/-! ### the next step -/
def canB (t : List WishD) (pick st : List Int) (i : Nat) : Bool := !decide (atI st i = atI pick i) && quietB t (st.set i (atI pick i)) i
def parkB (pick st : List Int) (i : Nat) : Bool := !decide (atI st i = atI pick i) && !decide (atI st i = -1)
def goS (t : List WishD) (pick st : List Int) : Option StepD :=
 match (List.range st.length).find? (canB t pick st) with
 | some i => some ((i : Int), atI pick i)
 | none => match (List.range st.length).find? (parkB pick st) with
  | some i => some ((i : Int), -1)
  | none => none
def ordF (t : List WishD) (pick : List Int) : Nat → List Int → List StepD
 | 0, _ => []
 | n + 1, st => match goS t pick st with
  | none => []
  | some s => s :: ordF t pick n (stepS st s)

def wgt (p s : Int) : Nat := if s = p then 0 else if s = -1 then 1 else 2
def left : List Int → List Int → Nat
 | p :: ps, s :: ss => wgt p s + left ps ss
 | _, _ => 0
theorem left_set : ∀ {pick st : List Int} {i : Nat} (v : Int), i < st.length → i < pick.length → left pick (st.set i v) + wgt (atI pick i) (atI st i) = left pick st + wgt (atI pick i) v
 | [], _, _, _, _, h => by simp at h
 | _ :: _, [], _, _, h, _ => by simp at h
 | p :: ps, s :: ss, 0, v, _, _ => by simp [left, atI]; omega
 | p :: ps, s :: ss, i + 1, v, h1, h2 => by
  have := left_set (pick := ps) (st := ss) (i := i) v (by simpa using h1) (by simpa using h2)
  simp only [List.set_cons_succ, left, atI, List.getElem?_cons_succ] at this ⊢
  omega
def orderL (t : List WishD) (pick : List Int) : List StepD := ordF t pick (left pick (zeros t.length)) (zeros t.length)

structure Way (t : List WishD) (pick st : List Int) : Prop where
 lawful : lawfulB t pick = true
 len : st.length = t.length
 calm : calmB t st = true
 at_ : ∀ i, i < t.length → atI st i = atI pick i ∨ (atI pick i ≠ 0 ∧ (atI st i = 0 ∨ atI st i = -1))

theorem choice_at : ∀ {t : List WishD} {p : List Int}, choiceB t p = true → ∀ {i : Nat} {x : WishD}, t[i]? = some x → idxB (atI p i) x.opts.length = true
 | [], _, _, i, x, h => by simp at h
 | y :: t, [], h, _, _, _ => by simp [choiceB] at h
 | y :: t, k :: p, h, i, x, hx => by
  simp only [choiceB, Bool.and_eq_true] at h
  cases i with
  | zero => simp at hx; subst hx; simpa [atI] using h.1
  | succ i =>
   have := choice_at h.2 (i := i) (x := x) (by simpa using hx)
   simpa [atI] using this
theorem lawful_parts {t : List WishD} {p : List Int} (h : lawfulB t p = true) : validT t = 0 ∧ choiceB t p = true ∧ freeB t p = true := by
 simp only [lawfulB, Bool.and_eq_true, decide_eq_true_eq] at h
 exact ⟨h.1.1, h.1.2, h.2⟩
theorem lawful_len {t : List WishD} {p : List Int} (h : lawfulB t p = true) : p.length = t.length := (choiceB_len (lawful_parts h).2.1)
theorem lawful_at {t : List WishD} {p : List Int} (h : lawfulB t p = true) {i : Nat} (hi : i < t.length) : 0 ≤ atI p i ∧ atI p i < ((t[i]?.getD default).opts.length : Int) := by
 have hx : t[i]? = some t[i] := by simp [hi]
 have := choice_at (lawful_parts h).2.1 hx
 rw [hx]
 simpa [idxB] using this
theorem lawful_clash {t : List WishD} {p : List Int} (h : lawfulB t p = true) {i k : Nat} (hi : i < t.length) (hk : k < t.length) : clashT t i (atI p i) k (atI p k) = false := by
 obtain ⟨hv, hc, hf⟩ := lawful_parts h
 by_cases hne : i = k
 ·subst hne; exact clashT_same _ _ _ _
 ·have hpl := lawful_len h
  obtain ⟨⟨x, o⟩, hx⟩ := Option.isSome_iff_exists.1 (optOf_of_choice hc i hi)
  obtain ⟨⟨y, q⟩, hy⟩ := Option.isSome_iff_exists.1 (optOf_of_choice hc k hk)
  obtain ⟨n, h1, h2, h3⟩ := optOf_spec hx
  obtain ⟨m, h4, h5, h6⟩ := optOf_spec hy
  rw [atI_some h2, atI_some h5, clashT_eq hv hne h1 h4 h3 h6]
  have := freeB_no hf (i := i) (d := k) (by omega) (by omega) hne
  simpa only [clashAt, hx, hy] using this

theorem Way.begin {t : List WishD} {pick : List Int} (h : lawfulB t pick = true) : Way t pick (zeros t.length) :=
 ⟨h, by simp [zeros], calm_zeros _ _, fun i _ => by
  rw [atI_zeros]
  by_cases e : atI pick i = 0
  ·exact Or.inl e.symm
  ·exact Or.inr ⟨e, Or.inl rfl⟩⟩
theorem Way.last {t : List WishD} {pick st : List Int} (h : Way t pick st) (hn : goS t pick st = none) : st = pick := by
 have hl := h.len
 have hp := lawful_len h.lawful
 have hcan : ∀ i, i < st.length → canB t pick st i = false := by
  intro i hi
  cases hf : (List.range st.length).find? (canB t pick st) with
  | some j => simp [goS, hf] at hn
  | none =>
   rw [List.find?_eq_none] at hf
   simpa using hf i (by simpa using hi)
 have hpark : ∀ i, i < st.length → parkB pick st i = false := by
  intro i hi
  cases hf : (List.range st.length).find? (canB t pick st) with
  | some j => simp [goS, hf] at hn
  | none =>
   cases hg : (List.range st.length).find? (parkB pick st) with
   | some j => simp [goS, hf, hg] at hn
   | none =>
    rw [List.find?_eq_none] at hg
    simpa using hg i (by simpa using hi)
 have hat : ∀ i, i < st.length → atI st i = atI pick i ∨ atI st i = -1 := by
  intro i hi
  have := hpark i hi
  simp [parkB] at this
  by_cases e : atI st i = atI pick i
  ·exact Or.inl e
  ·exact Or.inr (this e)
 refine ext_atI (by omega) fun i hi => ?_
 rcases hat i hi with e | e
 ·exact e
 ·refine Classical.byContradiction fun hne => ?_
  have h1 := hcan i hi
  simp only [canB, Bool.and_eq_false_iff, Bool.not_eq_false', decide_eq_true_eq] at h1
  rcases h1 with h1 | h1
  ·exact hne h1
  ·have : quietB t (st.set i (atI pick i)) i = true := by
    rw [quiet_iff]
    intro k hk
    refine busy_no ?_
    rw [atI_set hi]
    by_cases hik : i = k
    ·subst hik; exact clashT_same _ _ _ _
    ·rw [atI_set_ne hik]
     have hk' : k < st.length := by simpa using hk
     rcases hat k hk' with e | e
     ·rw [e]; exact lawful_clash h.lawful (by omega) (by omega)
     ·rw [e, clashT_comm]; exact clashT_neg _ _ _ _ _ (by decide)
   rw [this] at h1
   cases h1
inductive NextIs (t : List WishD) (pick st : List Int) (s : StepD) : Prop where
 | go (i : Nat) (hi : i < st.length) (e : s = ((i : Int), atI pick i)) (hne : atI st i ≠ atI pick i) (hq : quietB t (stepS st s) i = true)
 | park (i : Nat) (hi : i < st.length) (e : s = ((i : Int), -1)) (hne : atI st i ≠ atI pick i) (h1 : atI st i ≠ -1) (hno : ∀ k, k < st.length → canB t pick st k = false)
theorem next_some {t : List WishD} {pick st : List Int} {s : StepD} (h : goS t pick st = some s) : NextIs t pick st s := by
 unfold goS at h
 split at h
 ·rename_i i hf
  cases h
  have h1 := List.find?_some hf
  have h2 := List.mem_of_find?_eq_some hf
  simp only [canB, Bool.and_eq_true, Bool.not_eq_true', decide_eq_false_iff_not] at h1
  exact .go i (by simpa using h2) rfl h1.1 (by simpa [stepS] using h1.2)
 ·rename_i hf
  split at h
  ·rename_i i hg
   cases h
   have h1 := List.find?_some hg
   have h2 := List.mem_of_find?_eq_some hg
   simp only [parkB, Bool.and_eq_true, Bool.not_eq_true', decide_eq_false_iff_not] at h1
   rw [List.find?_eq_none] at hf
   exact .park i (by simpa using h2) rfl h1.1 h1.2 (fun k hk => by simpa using hf k (by simpa using hk))
  ·cases h
theorem Way.step {t : List WishD} {pick st : List Int} (h : Way t pick st) {s : StepD} (hn : goS t pick st = some s) :
  Way t pick (stepS st s) ∧ left pick (stepS st s) < left pick st ∧ stepOkB t s = true ∧ (∃ i : Nat, i < t.length ∧ s.1 = i ∧ quietB t (stepS st s) i = true) := by
 have hl := h.len
 have hp := lawful_len h.lawful
 cases next_some hn with
 | go i hi e hne hq =>
  subst e
  have hit : i < t.length := by omega
  have hat := lawful_at h.lawful hit
  have e1 : stepS st ((i : Int), atI pick i) = st.set i (atI pick i) := by simp [stepS]
  rw [e1] at hq ⊢
  refine ⟨⟨h.lawful, by simpa using hl, by rw [calm_set h.calm hi]; exact hq, fun k hk => ?_⟩, ?_, ?_, i, hit, rfl, hq⟩
  ·by_cases hik : i = k
   ·subst hik; rw [atI_set hi]; exact Or.inl rfl
   ·rw [atI_set_ne hik]; exact h.at_ k hk
  ·have := left_set (pick := pick) (st := st) (i := i) (atI pick i) hi (by omega)
   have w0 : wgt (atI pick i) (atI pick i) = 0 := by simp [wgt]
   have w1 : 0 < wgt (atI pick i) (atI st i) := by unfold wgt; rw [if_neg hne]; split <;> omega
   omega
  ·simp only [stepOkB, idxB, Int.toNat_natCast, Bool.and_eq_true, decide_eq_true_eq]
   exact ⟨⟨⟨by omega, by omega⟩, by omega⟩, hat.2⟩
 | park i hi e hne h1 hno =>
  subst e
  have hit : i < t.length := by omega
  have hat := lawful_at h.lawful hit
  have e1 : stepS st ((i : Int), -1) = st.set i (-1) := by simp [stepS]
  have hq := calm_park (t := t) hi
  rw [e1]
  refine ⟨⟨h.lawful, by simpa using hl, by rw [calm_set h.calm hi]; exact hq, fun k hk => ?_⟩, ?_, ?_, i, hit, rfl, hq⟩
  ·by_cases hik : i = k
   ·subst hik
    rw [atI_set hi]
    rcases h.at_ i hk with e | e
    ·exact absurd e hne
    ·exact Or.inr ⟨e.1, Or.inr rfl⟩
   ·rw [atI_set_ne hik]; exact h.at_ k hk
  ·have := left_set (pick := pick) (st := st) (i := i) (-1) hi (by omega)
   have w0 : wgt (atI pick i) (-1) ≤ 1 := by unfold wgt; split <;> simp
   have w1 : wgt (atI pick i) (atI st i) = 2 := by unfold wgt; rw [if_neg hne, if_neg h1]
   omega
  ·simp only [stepOkB, idxB, Int.toNat_natCast, Bool.and_eq_true, decide_eq_true_eq]
   exact ⟨⟨⟨by omega, by omega⟩, by omega⟩, by omega⟩

/-! ### what the order is worth -/
def movesOf (l : List StepD) (i : Nat) : List Int := (l.filter fun s => decide (s.1 = (i : Int))).map (·.2)
def okMove (p : Int) (l : List Int) : Bool := if p = 0 then l == [] else l == [p] || l == [-1, p]
def movesOkB (pick : List Int) (l : List StepD) : Bool := (List.range pick.length).all fun i => okMove (atI pick i) (movesOf l i)
def calmWay (t : List WishD) : List Int → List StepD → Bool
 | _, [] => true
 | st, s :: l => quietB t (stepS st s) s.1.toNat && calmWay t (stepS st s) l
def checkS (t : List WishD) (pick : List Int) (l : List StepD) : Int :=
 if validT t = 0 then (if lawfulB t pick then (if stepsT t l = 0 then (if movesOkB pick l && calmWay t (zeros pick.length) l then 0 else 11) else stepsT t l) else 1) else validT t
def orderS (t : List WishD) (pick : List Int) : List StepD × Int := if validT t = 0 then (if lawfulB t pick then (orderL t pick, 0) else ([], 1)) else ([], validT t)
theorem movesOf_cons (s : StepD) (l : List StepD) (i : Nat) : movesOf (s :: l) i = if s.1 = (i : Int) then s.2 :: movesOf l i else movesOf l i := by
 unfold movesOf
 by_cases h : s.1 = (i : Int) <;> simp [h]

def leftMoves (p s : Int) (l : List Int) : Prop := (s = p ∧ l = []) ∨ (s ≠ p ∧ s = -1 ∧ l = [p]) ∨ (s ≠ p ∧ s ≠ -1 ∧ (l = [p] ∨ l = [-1, p]))
theorem ord_spec {t : List WishD} {pick : List Int} : ∀ (n : Nat) (st : List Int), Way t pick st → left pick st ≤ n →
  afterS st (ordF t pick n st) = pick ∧ (ordF t pick n st).all (stepOkB t) = true ∧ (ordF t pick n st).length ≤ left pick st ∧ calmWay t st (ordF t pick n st) = true ∧
  ∀ i, i < t.length → leftMoves (atI pick i) (atI st i) (movesOf (ordF t pick n st) i)
 | n, st, h, hle => by
  cases hn : goS t pick st with
  | none =>
   have e := h.last hn
   have e2 : ordF t pick n st = [] := by
    cases n with
    | zero => rfl
    | succ n => simp [ordF, hn]
   rw [e2]
   refine ⟨e, rfl, Nat.zero_le _, rfl, fun i _ => Or.inl ⟨by rw [e], rfl⟩⟩
  | some s =>
   obtain ⟨hw, hlt, hok, i0, hi0, hs, hq⟩ := h.step hn
   cases n with
   | zero => omega
   | succ n =>
    obtain ⟨h1, h2, h3, h4, h5⟩ := ord_spec n (stepS st s) hw (by omega)
    have e : ordF t pick (n + 1) st = s :: ordF t pick n (stepS st s) := by simp [ordF, hn]
    rw [e]
    refine ⟨h1, by rw [List.all_cons, hok, h2]; rfl, by rw [List.length_cons]; omega, ?_, fun i hi => ?_⟩
    ·have : s.1.toNat = i0 := by omega
     simp only [calmWay, this, hq, h4, Bool.and_self]
    ·rw [movesOf_cons]
     have h5' := h5 i hi
     have hl := h.len
     cases next_some hn with
     | go j hj e hne hq =>
      subst e
      by_cases hij : j = i
      ·subst hij
       have ea : atI (stepS st ((j : Int), atI pick j)) j = atI pick j := by simp only [stepS, Int.toNat_natCast]; exact atI_set hj _
       rw [ea] at h5'
       rw [if_pos rfl]
       rcases h5' with ⟨_, h⟩ | ⟨h, _⟩ | ⟨h, _⟩
       ·rw [h]
        by_cases e1 : atI st j = -1
        ·exact Or.inr (Or.inl ⟨hne, e1, rfl⟩)
        ·exact Or.inr (Or.inr ⟨hne, e1, Or.inl rfl⟩)
       ·exact absurd rfl h
       ·exact absurd rfl h
      ·have ea : atI (stepS st ((j : Int), atI pick j)) i = atI st i := by simp only [stepS, Int.toNat_natCast]; exact atI_set_ne hij _
       rw [ea] at h5'
       rw [if_neg (by simpa using fun e : (j : Int) = i => hij (by omega))]
       exact h5'
     | park j hj e hne hm hno =>
      subst e
      by_cases hij : j = i
      ·subst hij
       have hat := lawful_at h.lawful hi
       have ea : atI (stepS st ((j : Int), -1)) j = -1 := by simp only [stepS, Int.toNat_natCast]; exact atI_set hj _
       rw [ea] at h5'
       rw [if_pos rfl]
       rcases h5' with ⟨h, _⟩ | ⟨_, _, h⟩ | ⟨_, h, _⟩
       ·omega
       ·rw [h]
        exact Or.inr (Or.inr ⟨hne, hm, Or.inr rfl⟩)
       ·exact absurd rfl h
      ·have ea : atI (stepS st ((j : Int), -1)) i = atI st i := by simp only [stepS, Int.toNat_natCast]; exact atI_set_ne hij _
       rw [ea] at h5'
       rw [if_neg (by simpa using fun e : (j : Int) = i => hij (by omega))]
       exact h5'
theorem left_zeros_le : ∀ (p : List Int) (n : Nat), left p (zeros n) ≤ 2 * n
 | [], n => by simp [left]
 | _ :: _, 0 => by simp [left, zeros]
 | p :: ps, n + 1 => by
  have := left_zeros_le ps n
  have w : wgt p 0 ≤ 2 := by unfold wgt; split <;> (try split) <;> omega
  simp only [zeros, List.replicate_succ, left] at this ⊢
  omega
theorem order_spec {t : List WishD} {pick : List Int} (h : lawfulB t pick = true) :
  afterS (zeros t.length) (orderL t pick) = pick ∧ (orderL t pick).all (stepOkB t) = true ∧ (orderL t pick).length ≤ left pick (zeros t.length) ∧ calmWay t (zeros t.length) (orderL t pick) = true ∧ movesOkB pick (orderL t pick) = true := by
 obtain ⟨h1, h2, h3, h4, h5⟩ := ord_spec (left pick (zeros t.length)) (zeros t.length) (Way.begin h) (Nat.le_refl _)
 refine ⟨h1, h2, h3, h4, ?_⟩
 simp only [movesOkB, List.all_eq_true, List.mem_range]
 intro i hi
 have hi' : i < t.length := by rw [← lawful_len h]; exact hi
 have := h5 i hi'
 rw [atI_zeros] at this
 unfold okMove
 show (if _ then movesOf (orderL t pick) i == [] else _) = true
 have e : movesOf (ordF t pick (left pick (zeros t.length)) (zeros t.length)) i = movesOf (orderL t pick) i := rfl
 rw [e] at this
 rcases this with ⟨h, h'⟩ | ⟨_, h, _⟩ | ⟨h, _, h'⟩
 ·rw [if_pos h.symm, h']; rfl
 ·omega
 ·rw [if_neg (fun e => h e.symm)]
  rcases h' with h' | h' <;> simp [h']
theorem order_steps {t : List WishD} {pick : List Int} (h : lawfulB t pick = true) (h512 : t.length ≤ 512) : stepsT t (orderL t pick) = 0 := by
 obtain ⟨_, h2, h3, _⟩ := order_spec h
 have := left_zeros_le pick t.length
 unfold stepsT
 rw [if_pos (lawful_parts h).1, if_pos h2, if_neg (by omega)]
theorem order_check {t : List WishD} {pick : List Int} (h : lawfulB t pick = true) (h512 : t.length ≤ 512) : checkS t pick (orderL t pick) = 0 := by
 obtain ⟨_, _, _, h4, h5⟩ := order_spec h
 unfold checkS
 rw [if_pos (lawful_parts h).1, if_pos h, if_pos (order_steps h h512), lawful_len h, h4, h5]
 rfl

/-! ### what the check is worth -/
theorem stepOk_idx {t : List WishD} {s : StepD} (h : stepOkB t s = true) : ∃ i : Nat, s.1 = i ∧ i < t.length := by
 simp only [stepOkB, Bool.and_eq_true] at h
 exact idxB_nat h.1.1
theorem calmWay_iff {t : List WishD} : ∀ {l : List StepD} {st : List Int}, calmB t st = true → st.length = t.length → l.all (stepOkB t) = true → (calmWay t st l = true ↔ ∀ n, n ≤ l.length → calmB t (afterS st (l.take n)) = true)
 | [], st, h, _, _ => by
  constructor
  ·intro _ n _
   simpa [afterS] using h
  ·intro _; rfl
 | s :: l, st, h, hl, hok => by
  rw [List.all_cons, Bool.and_eq_true] at hok
  obtain ⟨i, hi, hit⟩ := stepOk_idx hok.1
  have e : s.1.toNat = i := by omega
  have hcs : calmB t (stepS st s) = quietB t (stepS st s) i := by
   simp only [stepS, e]
   exact calm_set h (by omega) _
  constructor
  ·intro g n hn
   simp only [calmWay, e, Bool.and_eq_true] at g
   cases n with
   | zero => simpa [afterS] using h
   | succ n =>
    rw [List.take_succ_cons, afterS_cons]
    exact (calmWay_iff (hcs.trans g.1) (by rw [stepS_len]; exact hl) hok.2).1 g.2 n (by simpa using hn)
  ·intro g
   have g1 := g 1 (by simp)
   simp only [List.take_succ_cons, List.take_zero, afterS_cons] at g1
   have g1' : calmB t (stepS st s) = true := g1
   simp only [calmWay, e, Bool.and_eq_true]
   refine ⟨hcs.symm.trans g1', (calmWay_iff g1' (by rw [stepS_len]; exact hl) hok.2).2 fun n hn => ?_⟩
   have := g (n + 1) (by simpa using hn)
   rwa [List.take_succ_cons, afterS_cons] at this
theorem after_at {t : List WishD} {i : Nat} : ∀ {l : List StepD} {st : List Int}, st.length = t.length → l.all (stepOkB t) = true → i < t.length → atI (afterS st l) i = (movesOf l i).getLast?.getD (atI st i)
 | [], st, _, _, _ => rfl
 | s :: l, st, hl, hok, hi => by
  rw [List.all_cons, Bool.and_eq_true] at hok
  obtain ⟨j, hj, hjt⟩ := stepOk_idx hok.1
  rw [afterS_cons, after_at (by rw [stepS_len]; exact hl) hok.2 hi, movesOf_cons]
  by_cases e : j = i
  ·subst e
   have e2 : atI (stepS st s) j = s.2 := by
    simp only [stepS, hj, Int.toNat_natCast]
    exact atI_set (by omega) _
   rw [if_pos hj, e2, List.getLast?_cons]
   rfl
  ·have e2 : atI (stepS st s) i = atI st i := by
    simp only [stepS, hj, Int.toNat_natCast]
    exact atI_set_ne e _
   rw [if_neg (by omega), e2]
theorem check_steps {t : List WishD} {pick : List Int} {l : List StepD} (h : checkS t pick l = 0) : lawfulB t pick = true ∧ stepsT t l = 0 ∧ movesOkB pick l = true ∧ calmWay t (zeros t.length) l = true := by
 unfold checkS at h
 split at h
 ·split at h
  ·rename_i hv hlw
   split at h
   ·rename_i hs
    split at h
    ·rename_i hm
     rw [lawful_len hlw, Bool.and_eq_true] at hm
     exact ⟨hlw, hs, hm.1, hm.2⟩
    ·cases h
   ·rename_i hs; exact absurd h hs
  ·cases h
 ·rename_i hv; exact absurd h hv
theorem stepsT_ok {t : List WishD} {l : List StepD} (h : stepsT t l = 0) : validT t = 0 ∧ l.all (stepOkB t) = true ∧ l.length ≤ 1024 := by
 unfold stepsT at h
 split at h
 ·rename_i hv
  split at h
  ·rename_i hk
   split at h
   ·cases h
   ·exact ⟨hv, hk, by omega⟩
  ·cases h
 ·rename_i hv; exact absurd h hv
theorem check_worth {t : List WishD} {pick : List Int} {l : List StepD} (h : checkS t pick l = 0) :
  stepsT t l = 0 ∧ (∀ n, n ≤ l.length → calmB t (afterS (zeros t.length) (l.take n)) = true) ∧ afterS (zeros t.length) l = pick := by
 obtain ⟨hlw, hs, hm, hc⟩ := check_steps h
 obtain ⟨_, hok, _⟩ := stepsT_ok hs
 have hz : (zeros t.length).length = t.length := by simp [zeros]
 refine ⟨hs, (calmWay_iff (calm_zeros _ _) hz hok).1 hc, ?_⟩
 refine ext_atI (by rw [afterS_len, hz, lawful_len hlw]) fun i hi => ?_
 rw [afterS_len, hz] at hi
 rw [after_at hz hok hi, atI_zeros]
 simp only [movesOkB, List.all_eq_true, List.mem_range] at hm
 have := hm i (by rw [lawful_len hlw]; exact hi)
 unfold okMove at this
 split at this
 ·rename_i e
  rw [e]
  have : movesOf l i = [] := by simpa using this
  rw [this]; rfl
 ·have : movesOf l i = [atI pick i] ∨ movesOf l i = [-1, atI pick i] := by simpa using this
  rcases this with e | e <;> rw [e] <;> rfl
theorem check_less {t : List WishD} {pick : List Int} {a b : List StepD} {s : StepD} (h : checkS t pick (a ++ s :: b) = 0) (hs : s.2 ≠ -1) : checkS t pick (a ++ b) = 11 := by
 obtain ⟨hlw, hst, hm, hc⟩ := check_steps h
 obtain ⟨hv, hok, hle⟩ := stepsT_ok hst
 simp only [List.all_append, List.all_cons, Bool.and_eq_true] at hok
 rw [List.length_append, List.length_cons] at hle
 have h1 : stepsT t (a ++ b) = 0 := by
  unfold stepsT
  rw [if_pos hv, if_pos (by simp only [List.all_append, Bool.and_eq_true]; exact ⟨hok.1, hok.2.2⟩), if_neg (by rw [List.length_append]; omega)]
 obtain ⟨i, hi, hit⟩ := stepOk_idx hok.2.1
 have h2 : movesOkB pick (a ++ b) = false := by
  cases hb : movesOkB pick (a ++ b) with
  | false => rfl
  | true =>
   exfalso
   simp only [movesOkB, List.all_eq_true, List.mem_range] at hb hm
   have g1 := hb i (by rw [lawful_len hlw]; exact hit)
   have g2 := hm i (by rw [lawful_len hlw]; exact hit)
   have e1 : movesOf (a ++ s :: b) i = movesOf a i ++ s.2 :: movesOf b i := by
    simp [movesOf, List.filter_append, hi]
   have e2 : movesOf (a ++ b) i = movesOf a i ++ movesOf b i := by simp [movesOf, List.filter_append]
   rw [e1] at g2
   rw [e2] at g1
   have hne : atI pick i ≠ -1 := by have := (lawful_at hlw hit).1; omega
   unfold okMove at g1 g2
   generalize movesOf a i = A at g1 g2
   generalize movesOf b i = B at g1 g2
   split at g2
   ·simp at g2
   ·rename_i h0
    rw [if_neg h0] at g1
    have g1' : A ++ B = [atI pick i] ∨ A ++ B = [-1, atI pick i] := by simpa using g1
    have g2' : A ++ s.2 :: B = [atI pick i] ∨ A ++ s.2 :: B = [-1, atI pick i] := by simpa using g2
    have l1 : A.length + B.length = 1 ∨ A.length + B.length = 2 := by
     rcases g1' with e | e <;> have := congrArg List.length e <;> simp at this <;> omega
    rcases g2' with e | e
    ·have := congrArg List.length e
     simp at this
     omega
    ·have hlen := congrArg List.length e
     simp at hlen
     match A, B, hlen, e with
     | [], [y], _, e => simp at e; exact hs e.1
     | [x], [], _, e =>
      simp at e
      rcases g1' with e' | e'
      ·simp at e'; omega
      ·simp at e'
     | [], [], h, _ => simp at h
     | [], _ :: _ :: _, h, _ => simp at h
     | [_], _ :: _, h, _ => simp at h; omega
     | _ :: _ :: _, _, h, _ => simp at h; omega
 unfold checkS
 rw [if_pos hv, if_pos hlw, if_pos h1, h2]
 rfl
end Go.Proofs.YtepcdhpikpmepaaGreat
namespace Go.Proofs.YtepcdhpikpmepaaGreat
open Go.RowKit

/-! ### slices.IndexFunc, ContainsFunc with a function that has captured one variable -/
set_option maxHeartbeats 400000 in
theorem indexFunc_stepC_calls (va q : Value) (l : List (Int × Int)) (g : Nat) (hg : ∀ (x : Array Value) (W : World), (callFunc g x).run Tryz.prog W = .ok (.enter g x) W) (p : Int × Int → Bool) (w : World) (h : Spans w va l)
  (hf : ∀ s ∈ l, ∀ W, Ext w W → Calls Tryz.prog g #[.agg #[.int .i64 s.1, .int .i64 s.2], q] W fun e w' => e = .returned (.bool (p s)) ∧ Ext W w') :
  Calls Tryz.prog 70 #[va, .func (.func g) #[] #[q]] w fun e w' => e = .returned (.int .i64 (findI p l)) ∧ Ext w w' := by
 obtain ⟨a, c, rfl, hn, hc, hat⟩ := h.open
 clear h
 have hf' := Lib.hid hf
 clear hf
 go_enter Tryz.func70, Tryz.ntmps70
 go_wp2_with fail
 go_loopw [8] (fun vi wr => ∃ i : Nat, i ≤ l.length ∧ vi = .int .i64 i ∧ Ext w wr ∧ Hid (FindAt p l i)) (fun vi _ => l.length - (intOf vi).toNat)
 case atStart => exact ⟨0, by omega, rfl, Ext.refl _, FindAt.zero _ _⟩
 case round =>
  obtain ⟨i, hi, rfl, hx, hF⟩ := hrel
  by_cases h1 : i < l.length
  ·obtain ⟨b1, o1, x, y, rfl, hb1, dx, ex, g1, g2⟩ := hat i h1 wr hx
   have hm : (x, y) ∈ l := List.mem_of_getElem? ex.out
   have hcall := Lib.hid (hf'.out (x, y) hm wr hx)
   cases hp : p (x, y) with
   | true =>
    have R := Lib.hid (hF.out.hit ex.out hp)
    have hp' := Lib.hid hp
    clear hp
    go_wp2_with fail
    refine hcall.out.mono ?_
    rintro e w1 ⟨rfl, hx1⟩
    rw [hp'.out]
    go_wp2
    go_ret
    rw [R.out]
    exact ⟨rfl, hx.trans hx1⟩
   | false =>
    have R := Lib.hid (hF.out.miss ex.out hp)
    have hp' := Lib.hid hp
    clear hp
    go_wp2_with fail
    refine hcall.out.mono ?_
    rintro e w1 ⟨rfl, hx1⟩
    rw [hp'.out]
    go_wp2
    go_roundw
    case rel => exact ⟨i + 1, by omega, by go_num, hx.trans hx1, R⟩
    case measure => simp [intOf]; omega
  ·have R := Lib.hid (hF.out.none (by omega))
   go_wp2
   go_ret
   rw [R.out]
   exact ⟨rfl, hx⟩

theorem containsFunc_stepC_calls (va q : Value) (l : List (Int × Int)) (g : Nat) (hg : ∀ (x : Array Value) (W : World), (callFunc g x).run Tryz.prog W = .ok (.enter g x) W) (p : Int × Int → Bool) (w : World) (h : Spans w va l)
  (hf : ∀ s ∈ l, ∀ W, Ext w W → Calls Tryz.prog g #[.agg #[.int .i64 s.1, .int .i64 s.2], q] W fun e w' => e = .returned (.bool (p s)) ∧ Ext W w') :
  Calls Tryz.prog 47 #[va, .func (.func g) #[] #[q]] w fun e w' => e = .returned (.bool (l.any p)) ∧ Ext w w' := by
 have hc := Lib.hid (indexFunc_stepC_calls va q l g hg p w h hf)
 have R := Lib.hid (findI_ge p l)
 clear hf h
 go_enter Tryz.func47, Tryz.ntmps47
 go_wp2_with fail
 refine hc.out.mono ?_
 rintro e w1 ⟨rfl, hx1⟩
 go_wp2
 go_ret
 rw [R.out]
 exact ⟨rfl, hx1⟩

set_option maxHeartbeats 400000 in
theorem indexFunc_intC_calls (va q : Value) (l : List Int) (g : Nat) (hg : ∀ (x : Array Value) (W : World), (callFunc g x).run Tryz.prog W = .ok (.enter g x) W) (p : Int → Bool) (w : World) (h : Ints w va l)
  (hf : ∀ s ∈ l, ∀ W, Ext w W → Calls Tryz.prog g #[.int .i64 s, q] W fun e w' => e = .returned (.bool (p s)) ∧ Ext W w') :
  Calls Tryz.prog 69 #[va, .func (.func g) #[] #[q]] w fun e w' => e = .returned (.int .i64 (findI p l)) ∧ Ext w w' := by
 obtain ⟨a, c, rfl, hn, hc, hat⟩ := h.open
 clear h
 have hf' := Lib.hid hf
 clear hf
 go_enter Tryz.func69, Tryz.ntmps69
 go_wp2_with fail
 go_loopw [8] (fun vi wr => ∃ i : Nat, i ≤ l.length ∧ vi = .int .i64 i ∧ Ext w wr ∧ Hid (FindAt p l i)) (fun vi _ => l.length - (intOf vi).toNat)
 case atStart => exact ⟨0, by omega, rfl, Ext.refl _, FindAt.zero _ _⟩
 case round =>
  obtain ⟨i, hi, rfl, hx, hF⟩ := hrel
  by_cases h1 : i < l.length
  ·obtain ⟨b1, o1, x, rfl, hb1, dx, ex, g1⟩ := hat i h1 wr hx
   have hm : x ∈ l := List.mem_of_getElem? ex.out
   have hcall := Lib.hid (hf'.out x hm wr hx)
   cases hp : p x with
   | true =>
    have R := Lib.hid (hF.out.hit ex.out hp)
    have hp' := Lib.hid hp
    clear hp
    go_wp2_with fail
    refine hcall.out.mono ?_
    rintro e w1 ⟨rfl, hx1⟩
    rw [hp'.out]
    go_wp2
    go_ret
    rw [R.out]
    exact ⟨rfl, hx.trans hx1⟩
   | false =>
    have R := Lib.hid (hF.out.miss ex.out hp)
    have hp' := Lib.hid hp
    clear hp
    go_wp2_with fail
    refine hcall.out.mono ?_
    rintro e w1 ⟨rfl, hx1⟩
    rw [hp'.out]
    go_wp2
    go_roundw
    case rel => exact ⟨i + 1, by omega, by go_num, hx.trans hx1, R⟩
    case measure => simp [intOf]; omega
  ·have R := Lib.hid (hF.out.none (by omega))
   go_wp2
   go_ret
   rw [R.out]
   exact ⟨rfl, hx⟩

theorem containsFunc_intC_calls (va q : Value) (l : List Int) (g : Nat) (hg : ∀ (x : Array Value) (W : World), (callFunc g x).run Tryz.prog W = .ok (.enter g x) W) (p : Int → Bool) (w : World) (h : Ints w va l)
  (hf : ∀ s ∈ l, ∀ W, Ext w W → Calls Tryz.prog g #[.int .i64 s, q] W fun e w' => e = .returned (.bool (p s)) ∧ Ext W w') :
  Calls Tryz.prog 41 #[va, .func (.func g) #[] #[q]] w fun e w' => e = .returned (.bool (l.any p)) ∧ Ext w w' := by
 have hc := Lib.hid (indexFunc_intC_calls va q l g hg p w h hf)
 have R := Lib.hid (findI_ge p l)
 clear hf h
 go_enter Tryz.func41, Tryz.ntmps41
 go_wp2_with fail
 refine hc.out.mono ?_
 rintro e w1 ⟨rfl, hx1⟩
 go_wp2
 go_ret
 rw [R.out]
 exact ⟨rfl, hx1⟩

/-! ### validStep -/
theorem validStep_calls (wv : Value) (t : List WishD) (x y : Int) (w : World) (h : Wishes w wv t) :
  Calls Tryz.prog 49 #[.agg #[wv], .agg #[.int .i64 x, .int .i64 y]] w fun e w' => e = .returned (.bool (stepOkB t (x, y))) ∧ Ext w w' := by
 obtain ⟨ta, tc, rfl, hn, hc, hat⟩ := h.open
 clear h
 by_cases h1 : 0 ≤ x
 ·have d1 : decide (0 ≤ x) = true := decide_eq_true h1
  by_cases h2 : x < (t.length : Int)
  ·obtain ⟨n, rfl⟩ : ∃ n : Nat, x = n := ⟨x.toNat, by omega⟩
   have hn' : n < t.length := by omega
   have d2 : decide (n < t.length) = true := decide_eq_true hn'
   obtain ⟨b1, o1, v, pa, pc, oa, oc, rfl, hb1, dx, ex, g0, g1, g2, gp, go⟩ := hat n hn' w (Ext.refl _)
   have R0 : Hid (stepOkB t ((n : Int), y) = (decide (-1 ≤ y) && decide (y < (v.opts.length : Int)))) := by
    show _ = _
    simp only [stepOkB, Int.toNat_natCast, ex.out, Option.getD_some, idxB_of_lt hn', Bool.true_and]
   clear gp go hat h1 h2 g0 g1
   by_cases h3 : -1 ≤ y
   ·have d3 : decide (-1 ≤ y) = true := decide_eq_true h3
    have R : Hid (stepOkB t ((n : Int), y) = decide (y < (v.opts.length : Int))) := by show _ = _; rw [R0.out, d3]; rfl
    go_enter Tryz.func49, Tryz.ntmps49
    go_upto_region 1 with (fail)
    refine wp_abs (S := fun W => Ext w W ∧ W.cell? ⟨w.heap.size, 0, none⟩ = some (.slice (some ⟨b1, o1, none⟩) t.length tc) ∧ W.cell? ⟨w.heap.size + 1, 0, none⟩ = some (.int .i64 n) ∧ W.cell? ⟨w.heap.size + 1, 1, none⟩ = some (.int .i64 y)) ⟨by exact (by with_reducible repeat' (first | exact Ext.refl _ | assumption | refine Ext.drewN ?_ _ | refine Ext.drew ?_ | refine Ext.alloc ?_ _ | refine Ext.trans ?_ (by with_reducible assumption))), by simp, by simp, by simp⟩ ?_
    rintro W ⟨hW, c0, c1, c2⟩
    have z0 := After.cell c0
    have z1 := After.cell c1
    have z2 := After.cell c2
    have z3 := After.cell (hW.cell g2)
    clear c0 c1 c2
    refine wp_region_after (by kernel_rfl) (by kernel_rfl) ?_
    repeat (go_big_quiet_step (fail))
    refine wpQuiet_nil ?_
    rintro _ ⟨u, rfl⟩
    go_wp2
    go_ret
    rw [R.out]
    exact ⟨rfl, hW.trans u.ext⟩
   ·have d3 : decide (-1 ≤ y) = false := decide_eq_false h3
    have R : Hid (stepOkB t ((n : Int), y) = false) := by show _ = _; rw [R0.out, d3]; rfl
    go_enter Tryz.func49, Tryz.ntmps49
    go_upto_region 1 with (fail)
    refine wp_abs (S := fun W => Ext w W ∧ W.cell? ⟨w.heap.size, 0, none⟩ = some (.slice (some ⟨b1, o1, none⟩) t.length tc) ∧ W.cell? ⟨w.heap.size + 1, 0, none⟩ = some (.int .i64 n) ∧ W.cell? ⟨w.heap.size + 1, 1, none⟩ = some (.int .i64 y)) ⟨by exact (by with_reducible repeat' (first | exact Ext.refl _ | assumption | refine Ext.drewN ?_ _ | refine Ext.drew ?_ | refine Ext.alloc ?_ _ | refine Ext.trans ?_ (by with_reducible assumption))), by simp, by simp, by simp⟩ ?_
    rintro W ⟨hW, c0, c1, c2⟩
    have z0 := After.cell c0
    have z1 := After.cell c1
    have z2 := After.cell c2
    have z3 := After.cell (hW.cell g2)
    clear c0 c1 c2
    refine wp_region_after (by kernel_rfl) (by kernel_rfl) ?_
    repeat (go_big_quiet_step (fail))
    refine wpQuiet_nil ?_
    rintro _ ⟨u, rfl⟩
    go_wp2
    go_ret
    rw [R.out]
    exact ⟨rfl, hW.trans u.ext⟩
  ·have d2 : decide (x < (t.length : Int)) = false := decide_eq_false h2
   have R : Hid (stepOkB t (x, y) = false) := by show _ = _; simp only [stepOkB, idxB, d2]; simp
   go_enter Tryz.func49, Tryz.ntmps49
   go_upto_region 1 with (fail)
   refine wp_abs (S := fun W => Ext w W ∧ W.cell? ⟨w.heap.size, 0, none⟩ = some (.slice ta t.length tc) ∧ W.cell? ⟨w.heap.size + 1, 0, none⟩ = some (.int .i64 x) ∧ W.cell? ⟨w.heap.size + 1, 1, none⟩ = some (.int .i64 y)) ⟨by exact (by with_reducible repeat' (first | exact Ext.refl _ | assumption | refine Ext.drewN ?_ _ | refine Ext.drew ?_ | refine Ext.alloc ?_ _ | refine Ext.trans ?_ (by with_reducible assumption))), by simp, by simp, by simp⟩ ?_
   rintro W ⟨hW, c0, c1, c2⟩
   have z0 := After.cell c0
   have z1 := After.cell c1
   have z2 := After.cell c2
   skip
   clear c0 c1 c2
   refine wp_region_after (by kernel_rfl) (by kernel_rfl) ?_
   repeat (go_big_quiet_step (fail))
   refine wpQuiet_nil ?_
   rintro _ ⟨u, rfl⟩
   go_wp2
   go_ret
   rw [R.out]
   exact ⟨rfl, hW.trans u.ext⟩
 ·have d1 : decide (0 ≤ x) = false := decide_eq_false h1
  have R : Hid (stepOkB t (x, y) = false) := by show _ = _; simp only [stepOkB, idxB, d1]; simp
  go_enter Tryz.func49, Tryz.ntmps49
  go_upto_region 1 with (fail)
  refine wp_abs (S := fun W => Ext w W ∧ W.cell? ⟨w.heap.size, 0, none⟩ = some (.slice ta t.length tc) ∧ W.cell? ⟨w.heap.size + 1, 0, none⟩ = some (.int .i64 x) ∧ W.cell? ⟨w.heap.size + 1, 1, none⟩ = some (.int .i64 y)) ⟨by exact (by with_reducible repeat' (first | exact Ext.refl _ | assumption | refine Ext.drewN ?_ _ | refine Ext.drew ?_ | refine Ext.alloc ?_ _ | refine Ext.trans ?_ (by with_reducible assumption))), by simp, by simp, by simp⟩ ?_
  rintro W ⟨hW, c0, c1, c2⟩
  have z0 := After.cell c0
  have z1 := After.cell c1
  have z2 := After.cell c2
  skip
  clear c0 c1 c2
  refine wp_region_after (by kernel_rfl) (by kernel_rfl) ?_
  repeat (go_big_quiet_step (fail))
  refine wpQuiet_nil ?_
  rintro _ ⟨u, rfl⟩
  go_wp2
  go_ret
  rw [R.out]
  exact ⟨rfl, hW.trans u.ext⟩

theorem check1_calls (wv q : Value) (t : List WishD) (b : Nat) (x y : Int) (w : World) (h : Wishes w wv t) (hb : w.cell? ⟨b, 0, none⟩ = some wv) (hq : q = .pointer (some ⟨b, 0, none⟩)) :
  Calls Tryz.prog 48 #[.agg #[.int .i64 x, .int .i64 y], q] w fun e w' => e = .returned (.bool (!stepOkB t (x, y))) ∧ Ext w w' := by
 subst hq
 have hT := Lib.hid h
 obtain ⟨ta, tc, rfl⟩ := h.form
 have hlt := World.block_lt_of_cell? _ _ hb
 clear h
 go_enter Tryz.func48, Tryz.ntmps48
 go_wp2_with fail
 refine (validStep_calls _ t x y _ (hT.out.ext (by with_reducible repeat' (first | exact Ext.refl _ | assumption | refine Ext.drewN ?_ _ | refine Ext.drew ?_ | refine Ext.alloc ?_ _ | refine Ext.trans ?_ (by with_reducible assumption))))).mono ?_
 rintro e w1 ⟨rfl, hx1⟩
 go_wp2
 go_ret
 exact ⟨rfl, ((Ext.refl _).alloc _).trans hx1⟩

theorem any_not {α : Type} (p : α → Bool) (l : List α) : (l.any fun x => !p x) = !(l.all p) := by
 induction l with
 | nil => rfl
 | cons x l ih => simp only [List.any_cons, List.all_cons, ih, Bool.not_and]

set_option maxHeartbeats 800000 in
theorem carryCheck_calls (wv sv : Value) (t : List WishD) (l : List (Int × Int)) (w : World) (h : Wishes w wv t) (hs : Spans w sv l) :
  Calls Tryz.prog 30 #[.agg #[wv], sv] w fun e w' => e = .returned (.int .i64 (stepsT t l)) ∧ Ext w w' := by
 have hT := Lib.hid h
 have hS := Lib.hid hs
 obtain ⟨ta, tc, rfl⟩ := h.form
 obtain ⟨sa, sc, rfl⟩ := hs.form
 have ll := hs.len
 clear h hs
 obtain ⟨z, hz⟩ : ∃ z, Hid (validT t = z) := ⟨_, rfl⟩
 have hval : Hid (∀ W, Ext w W → Calls Tryz.prog 17 #[.agg #[.slice ta t.length tc]] W fun e w' => e = .returned (.int .i64 z) ∧ Ext W w') := fun W hW => hz.out ▸ valid_calls _ t W (hT.out.ext hW)
 go_enter Tryz.func30, Tryz.ntmps30
 go_wp2_with fail
 refine (hval.out _ (by with_reducible repeat' (first | exact Ext.refl _ | assumption | refine Ext.drewN ?_ _ | refine Ext.drew ?_ | refine Ext.alloc ?_ _ | refine Ext.trans ?_ (by with_reducible assumption)))).mono ?_
 rintro e w1 ⟨rfl, hx1⟩
 have c0 : w1.cell? ⟨w.heap.size, 0, none⟩ = some (.slice ta t.length tc) := hx1.cell (by simp)
 have hW := ((Ext.refl w).alloc (.cells #[.slice ta t.length tc] 28)).trans hx1
 clear hx1 hval
 by_cases h0 : z = 0
 ·have hz0 : (z != 0) = false := by simp [h0]
  have hcont := Lib.hid (containsFunc_stepC_calls (.slice sa l.length sc) (.pointer (some ⟨w.heap.size, 0, none⟩)) l 48 (fun _ _ => by kernel_rfl) (fun s => !stepOkB t s) w1 (hS.out.ext hW)
   (fun s _ W hw => check1_calls _ _ t w.heap.size s.1 s.2 W (hT.out.ext (hW.trans hw)) (hw.cell c0) rfl))
  rw [any_not] at hcont
  have hzv : Hid (validT t = 0) := hz.out.trans h0
  clear hz h0
  cases hal : l.all (stepOkB t) with
  | false =>
   rw [hal] at hcont
   have R : Hid (stepsT t l = 1) := by show _ = _; unfold stepsT; rw [if_pos hzv.out, hal]; rfl
   clear hal
   go_wp2_with fail
   refine hcont.out.mono ?_
   rintro e w2 ⟨rfl, hx2⟩
   go_wp2
   go_ret
   rw [R.out]
   exact ⟨rfl, hW.trans hx2⟩
  | true =>
   rw [hal] at hcont
   have hal' := Lib.hid hal
   clear hal
   by_cases h3 : 1024 < l.length
   ·have R : Hid (stepsT t l = 2) := by show _ = _; unfold stepsT; rw [if_pos hzv.out, if_pos hal'.out, if_pos h3]
    go_wp2_with fail
    refine hcont.out.mono ?_
    rintro e w2 ⟨rfl, hx2⟩
    go_wp2
    go_ret
    rw [R.out]
    exact ⟨rfl, hW.trans hx2⟩
   ·have R : Hid (stepsT t l = 0) := by show _ = _; unfold stepsT; rw [if_pos hzv.out, if_pos hal'.out, if_neg h3]
    go_wp2_with fail
    refine hcont.out.mono ?_
    rintro e w2 ⟨rfl, hx2⟩
    go_wp2
    go_ret
    rw [R.out]
    exact ⟨rfl, hW.trans hx2⟩
 ·have hz0 : (z != 0) = true := by simp [h0]
  have R : Hid (stepsT t l = z) := by show _ = _; unfold stepsT; rw [hz.out, if_neg h0]
  clear hz h0
  go_wp2
  go_ret
  rw [R.out]
  exact ⟨rfl, hW⟩

/-! ### a state in memory -/
def St (W : World) (S : Nat) (l : List Int) : Prop := Blk W S 3 (l.map (Value.int .i64)).toArray
section
variable {W W' : World} {S : Nat} {l : List Int}
theorem St.cell (h : St W S l) {i : Nat} (hi : i < l.length) : W.cell? ⟨S, i, none⟩ = some (.int .i64 (atI l i)) := by
 have := Blk.cell h i
 rw [this]
 simp [atI, hi]
theorem St.frozen (h : St W S l) (i : Nat) : W.frozen? ⟨S, i, none⟩ = false := Blk.frozen h i
theorem St.set_ (h : St W S l) (i : Nat) (v : Int) : St (W.setCell ⟨S, i, none⟩ (.int .i64 v)) S (l.set i v) := by
 have := Blk.set_ h i (.int .i64 v)
 have e : (l.map (Value.int .i64)).toArray.setIfInBounds i (.int .i64 v) = ((l.set i v).map (Value.int .i64)).toArray := by simp [List.map_set]
 rw [e] at this
 exact this
theorem St.lt (h : St W S l) : S < W.heap.size := Blk.lt h
theorem St.ext (h : St W S l) (e : Ext W W') : St W' S l := (Keep.of_ext (X := fun _ => False) e).blk h id
theorem St.read (h : St W S l) (hl : l.length ≤ maxLen) : Ints W (.slice (some ⟨S, 0, none⟩) l.length l.length) l := ints_of_blk h (Nat.le_refl _) hl
end
theorem St.new (w : World) (n : Nat) : St (w.alloc (.cells (zerosV n) 3)) w.heap.size (zeros n) := by
 refine blk_new' rfl ?_
 simp [zeros, zerosV, zerosL]

/-! ### Play -/
def playS (t : List WishD) (l : List StepD) (fails : List Int) : List Int × Bool × Int :=
 if stepsT t l = 0 then (if fails.any (fun i => idxB i l.length) then (zeros t.length, false, 0) else (afterS (zeros t.length) l, true, 0)) else ([], false, stepsT t l)

end Go.Proofs.YtepcdhpikpmepaaGreat
namespace Go.Proofs.YtepcdhpikpmepaaGreat
open Go.RowKit

theorem stepsT_bd {t : List WishD} (h : validT t = 0) : 0 < t.length ∧ t.length ≤ 512 := by
 have h2 := h
 unfold validT at h2
 split at h2
 ·cases h2
 ·rename_i hb
  split at h2
  ·rename_i hw
   simp only [Bool.and_eq_true, decide_eq_true_eq] at hw
   exact ⟨hw.2, tooLarge_len (by simpa using hb)⟩
  ·cases h2
theorem take_step {α : Type} {l : List α} {i : Nat} {x : α} (h : l[i]? = some x) : l.take (i + 1) = l.take i ++ [x] := by rw [List.take_add_one, h]; rfl
theorem all_at {α : Type} {p : α → Bool} {l : List α} (h : l.all p = true) {i : Nat} {x : α} (hx : l[i]? = some x) : p x = true := List.all_eq_true.1 h x (List.mem_of_getElem? hx)

end Go.Proofs.YtepcdhpikpmepaaGreat
