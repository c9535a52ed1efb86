import Derived.Test.YtepcdhpikpmepaaGreatPDQ
import Derived.Deep.Cut
import Derived.Test.YtepcdhpikpmepaaGreatPLQ
namespace Go.Proofs.YtepcdhpikpmepaaGreat
open Go.RowKit

theorem ranged_step {l : List (Int × Int)} {i : Nat} {x y : Int} (d : l.drop i = (x, y) :: l.drop (i + 1)) : rangedB (l.drop i) = (!(farB x || farB y) && rangedB (l.drop (i + 1))) := by rw [d]; rfl

def hasB (l : List (Int × Int)) (t : Int) : Bool := l.any fun s => decide (s.1 ≤ t) && decide (t < s.2)
theorem has_step {l : List (Int × Int)} {i : Nat} {x y : Int} (t : Int) (d : l.drop i = (x, y) :: l.drop (i + 1)) : hasB (l.drop i) t = (decide (x ≤ t) && decide (t < y) || hasB (l.drop (i + 1)) t) := by rw [d]; rfl
def inB (k : Int) (a b : Bool) : Bool := if k = 0 then a || b else if k = 1 then a && b else a && !b
end Go.Proofs.YtepcdhpikpmepaaGreat
namespace Go.Proofs.YtepcdhpikpmepaaGreat
open Go.RowKit

def wideB (o : OptD) : Bool := decide (64 < o.spans.length)
def bigB (x : WishD) : Bool := decide (16 < x.opts.length) || decide (64 < x.people.length) || x.opts.any wideB
theorem tooLargeB_eq (t : List WishD) : tooLargeB t = (decide (512 < t.length) || t.any bigB) := rfl
theorem any_step {α : Type} {p : α → Bool} {l : List α} {i : Nat} {x : α} (d : l.drop i = x :: l.drop (i + 1)) : (l.drop i).any p = (p x || (l.drop (i + 1)).any p) := by rw [d]; rfl
theorem any_end {α : Type} {p : α → Bool} {l : List α} {i : Nat} (h : l.length ≤ i) : (l.drop i).any p = false := by rw [List.drop_of_length_le h]; rfl
theorem all_step {α : Type} {p : α → Bool} {l : List α} {i : Nat} {x : α} (d : l.drop i = x :: l.drop (i + 1)) : (l.drop i).all p = (p x && (l.drop (i + 1)).all p) := by rw [d]; rfl
theorem all_end {α : Type} {p : α → Bool} {l : List α} {i : Nat} (h : l.length ≤ i) : (l.drop i).all p = true := by rw [List.drop_of_length_le h]; rfl

theorem optOkB_of {o : OptD} (h : normalB o.spans = true) (h1 : 0 ≤ o.harm) (h2 : o.harm ≤ 1000000) (h3 : -1 ≤ o.room) (h4 : o.room < 256) : optOkB o = true := by simp [optOkB, h, h1, h2, h3, h4]
theorem optOkB_no {o : OptD} (h : normalB o.spans = false ∨ o.harm < 0 ∨ 1000000 < o.harm ∨ o.room < -1 ∨ 256 ≤ o.room) : optOkB o = false := by
 simp only [optOkB, Bool.and_eq_false_iff, decide_eq_false_iff_not]
 rcases h with h | h | h | h | h
 ·exact Or.inr h
 ·exact Or.inl (Or.inl (Or.inl (Or.inl (by omega))))
 ·exact Or.inl (Or.inl (Or.inl (Or.inr (by omega))))
 ·exact Or.inl (Or.inl (Or.inr (by omega)))
 ·exact Or.inl (Or.inr (by omega))

end Go.Proofs.YtepcdhpikpmepaaGreat
namespace Go.Proofs.YtepcdhpikpmepaaGreat
open Go.RowKit

/-! ### shared -/
theorem shareB_eq (a b : List Int) : shareB a b = a.any fun x => b.any fun y => x == y := by
 unfold shareB
 congr 1
 funext x
 rw [List.contains_eq_any_beq]
/-! ### within -/
def withinB (t : List WishD) (a i : Int) : Bool := idxB a t.length && idxB i (t[a.toNat]?.getD default).opts.length
end Go.Proofs.YtepcdhpikpmepaaGreat
namespace Go.Proofs.YtepcdhpikpmepaaGreat
open Go.RowKit

def insL : List Int → Int → List Int
 | [], x => [x]
 | y :: r, x => if y < x then y :: insL r x else if y = x then y :: r else x :: y :: r
theorem insL_end {l : List Int} {x : Int} {i : Nat} (h : l.length ≤ i) : insL (l.drop i) x = [x] := by rw [List.drop_of_length_le h]; rfl
theorem insL_lt {l : List Int} {x y : Int} {i : Nat} (d : l.drop i = y :: l.drop (i + 1)) (e : l[i]? = some y) (h : y < x) : l.take i ++ insL (l.drop i) x = l.take (i + 1) ++ insL (l.drop (i + 1)) x := by
 rw [d, insL, if_pos h, List.take_add_one, e]
 simp
theorem insL_eq {l : List Int} {x y : Int} {i : Nat} (d : l.drop i = y :: l.drop (i + 1)) (h : y = x) : l.take i ++ insL (l.drop i) x = l := by
 rw [d, insL, if_neg (by omega), if_pos h, ← d, List.take_append_drop]
theorem insL_gt {l : List Int} {x y : Int} {i : Nat} (d : l.drop i = y :: l.drop (i + 1)) (h : ¬ y < x) (h' : y ≠ x) : l.take i ++ insL (l.drop i) x = l.take i ++ [x] ++ l.drop i := by
 rw [d, insL, if_neg h, if_neg h']; simp
theorem insL_len : ∀ (l : List Int) (x : Int), (insL l x).length ≤ l.length + 1
 | [], x => by simp [insL]
 | y :: r, x => by
  have := insL_len r x
  unfold insL
  split
  ·simp; omega
  ·split <;> simp
theorem IntsO.take {w : World} {B g c m : Nat} {l : List Int} (h : IntsO w B (.slice (some ⟨g, 0, none⟩) l.length c) l) (hm : m ≤ l.length) : w.ownsRow B 3 1 (.slice (some ⟨g, 0, none⟩) m c) m ((l.take m).map (Value.int .i64)) := by
 refine ⟨by simp; omega, ?_⟩
 rcases h.2 with ⟨h, _⟩ | ⟨g', cap', cur, h, hb, hg, hn, hcap, hcs, htake⟩
 ·cases h
 ·cases h
  exact Or.inr ⟨g, c, cur, rfl, hb, hg, by omega, hcap, hcs, by rw [List.map_take, ← htake, List.take_take]; congr 1; omega⟩
theorem IntsO.readsDrop {w : World} {B g c i : Nat} {l : List Int} (h : IntsO w B (.slice (some ⟨g, 0, none⟩) l.length c) l) (hi : i ≤ l.length) : Reads w w.heap.size 1 (if c = i then some ⟨g, 0, none⟩ else some ⟨g, i, none⟩) (l.length - i) ((l.drop i).map (Value.int .i64)) := by
 refine ⟨by simp, fun h0 => ?_⟩
 have hlt := (h.lt g rfl).2
 rcases h.2 with ⟨h', _⟩ | ⟨g', cap', cur, h', hb, hg, hn, hcap, hcs, htake⟩
 ·cases h'
 ·cases h'
  refine ⟨⟨g, i, none⟩, by rw [if_neg (by omega)], hlt, fun j u hu => ?_⟩
  have := World.ownsRow.cells h (g := g) rfl (i + j) u (by simpa using hu)
  have e : (⟨g, 0, none⟩ : Addr).add (i + j) = (⟨g, i, none⟩ : Addr).add j := by unfold Addr.add; split <;> simp_all
  rw [← e]; exact this
theorem reads_of_owns {w : World} {base : Nat} {e : TypeId} {size n : Nat} {A : Option Addr} {C : Nat} {xs : List Value} (h : w.ownsRow base e size (.slice A n C) n xs) : Reads w w.heap.size size A n xs := by
 refine ⟨h.1, fun h0 => ?_⟩
 rcases h.2 with ⟨_, h''⟩ | ⟨g, cap, cur, h', hb, hg, _⟩
 ·omega
 ·cases h'
  exact ⟨⟨g, 0, none⟩, rfl, (h.lt g rfl).2, fun j u hu => h.cells rfl j u hu⟩
theorem insert_end {B g i : Nat} {l l' : List Int} {x : Int} {w w1 w2 w3 : World} {v2 v3 : Value} (hsz : w.heap.size ≤ w1.heap.size) (hsz2 : w.heap.size ≤ w2.heap.size) (hi : i ≤ l.length) (hl : l' = l.take i ++ [x] ++ l.drop i)
  (hK : Keep (fun k => k = g) w w2) (hat2 : v2.ownBlock = some g ∨ v2.ownBlock = some w1.heap.size)
  (hown : w3.ownsRow B 3 1 v3 (i + 1 + (l.length - i)) (((l.take i).map (Value.int .i64) ++ [.int .i64 x]) ++ (l.drop i).map (Value.int .i64))) (hg3 : w2.grownBy w3 v2.ownBlock)
  (hat : v3.ownBlock = v2.ownBlock ∨ v3.ownBlock = some w2.heap.size) :
  ∃ g' c', v3 = .slice (some ⟨g', 0, none⟩) l'.length c' ∧ IntsO w3 B (.slice (some ⟨g', 0, none⟩) l'.length c') l' ∧ Keep (fun k => k = g) w w3 ∧ (g' = g ∨ w.heap.size ≤ g') := by
 have hlen : i + 1 + (l.length - i) = l'.length := by rw [hl]; simp; omega
 have hmap : ((l.take i).map (Value.int .i64) ++ [.int .i64 x]) ++ (l.drop i).map (Value.int .i64) = l'.map (Value.int .i64) := by rw [hl]; simp
 rw [hlen, hmap] at hown
 have hX : ∀ k, v2.ownBlock = some k → k = g ∨ w.heap.size ≤ k := by
  intro k hk
  rcases hat2 with h | h <;> rw [h] at hk <;> cases hk
  ·exact Or.inl rfl
  ·exact Or.inr hsz
 rcases hown.2 with ⟨_, h0⟩ | ⟨g', c', cur, e, hb, _⟩
 ·omega
 ·refine ⟨g', c', e, by rw [e] at hown; exact hown, hK.grown hg3 hX, ?_⟩
  have e' : v3.ownBlock = some g' := by rw [e]; rfl
  rcases hat with h | h
  ·exact hX g' (h ▸ e')
  ·rw [h] at e'; cases e'; exact Or.inr hsz2
end Go.Proofs.YtepcdhpikpmepaaGreat
namespace Go.Proofs.YtepcdhpikpmepaaGreat
open Go.RowKit

theorem Spans.reads {w : World} {a : Option Addr} {n c : Nat} {l : List (Int × Int)} (h : Spans w (.slice a n c) l) : Reads w w.heap.size 2 a n (spanCells l) := by
 obtain ⟨_, _, e, _, _, h⟩ := h
 cases e
 have hlen : ∀ l : List (Int × Int), (spanCells l).length = l.length * 2 := by
  intro l
  induction l with
  | nil => rfl
  | cons x r ih => rw [spanCells, List.flatMap_cons, List.length_append]; show 2 + (spanCells r).length = _; rw [ih, List.length_cons]; omega
 refine ⟨hlen l, fun h0 => ?_⟩
 obtain ⟨b, off, rfl, hb, hc⟩ := h h0
 refine ⟨_, rfl, hb, fun j u hu => ?_⟩
 have hj : j < l.length * 2 := by have := (List.getElem?_eq_some_iff.1 hu).1; rwa [hlen] at this
 have hi : j / 2 < l.length := by omega
 have hs := spanCells_at (j / 2) l[j / 2] (List.getElem?_eq_getElem hi)
 have e : (⟨b, off, none⟩ : Addr).add j = ⟨b, off + j, none⟩ := by unfold Addr.add; split <;> simp_all
 rw [e]
 rcases Nat.mod_two_eq_zero_or_one j with h2 | h2
 ·have := hc (j / 2) hi 0 (by omega)
  rw [show off + j / 2 * 2 + 0 = off + j by omega] at this
  rw [this]
  have hs1 := hs.1
  rw [show j / 2 * 2 = j by omega, hu] at hs1
  rw [hs1]
  simp [hi]
 ·have := hc (j / 2) hi 1 (by omega)
  rw [show off + j / 2 * 2 + 1 = off + j by omega] at this
  rw [this]
  have hs1 := hs.2
  rw [show j / 2 * 2 + 1 = j by omega, hu] at hs1
  rw [hs1]
  simp [hi]
theorem span_one {l : List (Int × Int)} : ∀ u ∈ spanCells l, u.oneCell' = true := by
 intro u hu
 simp only [spanCells, List.mem_flatMap] at hu
 obtain ⟨s, _, hs⟩ := hu
 simp at hs
 rcases hs with rfl | rfl <;> rfl
def insAll (l : List (Int × Int)) : List Int := l.foldl (fun o s => insL (insL o s.1) s.2) []
theorem insAll_step {l : List (Int × Int)} {i : Nat} {x y : Int} (e : l[i]? = some (x, y)) : insAll (l.take (i + 1)) = insL (insL (insAll (l.take i)) x) y := by
 rw [List.take_add_one, e, insAll, List.foldl_append]; rfl
theorem insAll_len (l : List (Int × Int)) : (insAll l).length ≤ 2 * l.length := by
 suffices h : ∀ (l : List (Int × Int)) (o : List Int), (l.foldl (fun o s => insL (insL o s.1) s.2) o).length ≤ o.length + 2 * l.length by
  have := h l []; simpa [insAll] using this
 intro l
 induction l with
 | nil => intro o; simp
 | cons s r ih =>
  intro o
  rw [List.foldl_cons, List.length_cons]
  have h1 := ih (insL (insL o s.1) s.2)
  have h2 := insL_len (insL o s.1) s.2
  have h3 := insL_len o s.1
  omega
theorem spanCells_app (a b : List (Int × Int)) : spanCells (a ++ b) = spanCells a ++ spanCells b := by simp [spanCells]
theorem SpansO.keepInts {w w' : World} {B B' g n c : Nat} {v : Value} {l : List (Int × Int)} {o : List Int} (h : SpansO w B v l) (hO : IntsO w B' (.slice (some ⟨g, 0, none⟩) n c) o) (k : Keep (fun k => k = g) w w') : SpansO w' B v l :=
 h.keepT k (T := 3) (by rintro _ rfl _; exact owns_block hO rfl) (by decide)
theorem Ext.keepInts {w0 w w' : World} {g n c : Nat} {o : List Int} (h : Ext w0 w) (hO : IntsO w w0.heap.size (.slice (some ⟨g, 0, none⟩) n c) o) (k : Keep (fun k => k = g) w w') : Ext w0 w' :=
 h.keep k fun i hi e => by have := (World.ownsRow.lt hO g rfl).1; omega
theorem spans_app {w : World} {B : Nat} {v : Value} {a b : List (Int × Int)} (h : w.ownsRow B 102 2 v (a.length + b.length) (spanCells a ++ spanCells b)) : SpansO w B v (a ++ b) := by
 unfold SpansO
 rw [List.length_append, spanCells_app]
 exact h
theorem ints_kept {w w' : World} {B B' g n m c : Nat} {v : Value} {o : List Int} {xs : List Value} (h : IntsO w B (.slice (some ⟨g, 0, none⟩) n c) o) (hr : w.ownsRow B' 102 2 v m xs) (hg : w.grownBy w' v.ownBlock) : IntsO w' B (.slice (some ⟨g, 0, none⟩) n c) o := by
 obtain ⟨cs, hcs⟩ := owns_block (h : w.ownsRow _ _ _ _ _ _) (g := g) rfl
 refine World.ownsRow.kept h hg (Or.inr fun e => own_blk_ne hr hcs (by decide) e.symm)
end Go.Proofs.YtepcdhpikpmepaaGreat
namespace Go.Proofs.YtepcdhpikpmepaaGreat
open Go.RowKit

def combStep (out : List (Int × Int)) (x y : Int) : List (Int × Int) :=
 match out.getLast? with
 | none => out ++ [(x, y)]
 | some s => if s.2 = x then out.set (out.length - 1) (s.1, y) else out ++ [(x, y)]
def combTo (k : Int) (a b : List (Int × Int)) (p : List Int) : Nat → List (Int × Int)
 | 0 => []
 | i + 1 => if inB k (hasB a (p[i]?.getD 0)) (hasB b (p[i]?.getD 0)) then combStep (combTo k a b p i) (p[i]?.getD 0) (p[i + 1]?.getD 0) else combTo k a b p i
def combL (k : Int) (a b : List (Int × Int)) : List (Int × Int) := combTo k a b (insAll (a ++ b)) ((insAll (a ++ b)).length - 1)
section
variable {k : Int} {a b : List (Int × Int)} {p : List Int} {i : Nat} {x y : Int}
theorem combTo_skip (hx : p[i]? = some x) (h : inB k (hasB a x) (hasB b x) = false) : combTo k a b p (i + 1) = combTo k a b p i := by
 rw [combTo, hx, Option.getD_some, h]; rfl
theorem combTo_take (hx : p[i]? = some x) (hy : p[i + 1]? = some y) (h : inB k (hasB a x) (hasB b x) = true) : combTo k a b p (i + 1) = combStep (combTo k a b p i) x y := by
 rw [combTo, hx, hy, Option.getD_some, Option.getD_some, h]; rfl
theorem combStep_nil {out : List (Int × Int)} (h : out.length = 0) : combStep out x y = out ++ [(x, y)] := by
 rw [List.length_eq_zero_iff] at h; subst h; rfl
theorem combStep_far {out : List (Int × Int)} {u v : Int} {n : Nat} (hn : out.length = n + 1) (h : out[n]? = some (u, v)) (hne : v ≠ x) : combStep out x y = out ++ [(x, y)] := by
 rw [combStep, List.getLast?_eq_getElem?, hn, Nat.add_sub_cancel, h]; simp [hne]
theorem combStep_on {out : List (Int × Int)} {u v : Int} {n : Nat} (hn : out.length = n + 1) (h : out[n]? = some (u, v)) (he : v = x) : combStep out x y = out.set n (u, y) := by
 rw [combStep, List.getLast?_eq_getElem?, hn, Nat.add_sub_cancel, h]; simp [he]
theorem combTo_len (k : Int) (a b : List (Int × Int)) (p : List Int) : ∀ i, (combTo k a b p i).length ≤ i
 | 0 => Nat.le_refl _
 | i + 1 => by
  have := combTo_len k a b p i
  rw [combTo]
  split
  ·unfold combStep
   split
   ·simp; omega
   ·split <;> simp <;> omega
  ·omega
end
theorem spanCells_set {y : Int} : ∀ {l : List (Int × Int)} {n : Nat} {u v : Int}, l[n]? = some (u, v) → spanCells (l.set n (u, y)) = (spanCells l).set (n * 2 + 1) (.int .i64 y)
 | [], _, _, _, h => by simp at h
 | s :: r, 0, u, v, h => by simp at h; subst h; rfl
 | s :: r, n + 1, u, v, h => by
  have := spanCells_set (y := y) (l := r) (n := n) (u := u) (v := v) (by simpa using h)
  rw [show (n + 1) * 2 + 1 = (n * 2 + 1) + 1 + 1 by omega]
  show [_, _] ++ spanCells (r.set n (u, y)) = _
  rw [this]; rfl
theorem SpansO.last {w : World} {B g n c : Nat} {l : List (Int × Int)} {u v y : Int} (h : SpansO w B (.slice (some ⟨g, 0, none⟩) l.length c) l) (e : l[n]? = some (u, v)) :
  SpansO (w.setCell ⟨g, n * 2 + 1, none⟩ (.int .i64 y)) B (.slice (some ⟨g, 0, none⟩) (l.set n (u, y)).length c) (l.set n (u, y)) := by
 unfold SpansO
 rw [spanCells_set e, List.length_set]
 exact (World.ownsRow.stored h (n * 2 + 1) (.int .i64 y)).1
theorem SpansO.push {w1 : World} {B n : Nat} {v1 : Value} {l : List (Int × Int)} {x y : Int} (hn : n = l.length) (hown : w1.ownsRow B 102 2 v1 (n + 1) (spanCells l ++ [.int .i64 x, .int .i64 y])) : SpansO w1 B v1 (l ++ [(x, y)]) := by
 unfold SpansO
 rw [List.length_append, spanCells_app, ← hn]
 exact hown
theorem two_int (x y : Int) : ∀ u ∈ [Value.int .i64 x, .int .i64 y], u.oneCell' = true := by intro u hu; simp at hu; rcases hu with rfl | rfl <;> rfl
theorem owns_pos {w : World} {base : Nat} {e : TypeId} {size n : Nat} {v : Value} {xs : List Value} (h : w.ownsRow base e size v n xs) (h0 : 0 < n) : ∃ g c, v = .slice (some ⟨g, 0, none⟩) n c := by
 rcases h.2 with ⟨_, h1⟩ | ⟨g, cap, cur, rfl, _⟩
 ·omega
 ·exact ⟨_, _, rfl⟩
end Go.Proofs.YtepcdhpikpmepaaGreat
namespace Go.Proofs.YtepcdhpikpmepaaGreat
open Go.RowKit

theorem mem_insL {z x : Int} : ∀ {l : List Int}, z ∈ insL l x ↔ z = x ∨ z ∈ l
 | [] => by simp [insL]
 | y :: r => by
  rw [insL]
  split
  ·rw [List.mem_cons, mem_insL, List.mem_cons]
   constructor
   ·rintro (h | h | h) <;> simp [h]
   ·rintro (h | h | h) <;> simp [h]
  ·split
   ·next h => subst h; simp
   ·simp
theorem insL_sorted {x : Int} : ∀ {l : List Int}, l.Pairwise (· < ·) → (insL l x).Pairwise (· < ·)
 | [], _ => by simp [insL]
 | y :: r, h => by
  rw [List.pairwise_cons] at h
  rw [insL]
  split
  ·next hy =>
   rw [List.pairwise_cons]
   refine ⟨fun z hz => ?_, insL_sorted h.2⟩
   rcases mem_insL.1 hz with rfl | hz
   ·exact hy
   ·exact h.1 z hz
  ·split
   ·exact List.pairwise_cons.2 h
   ·rw [List.pairwise_cons]
    refine ⟨fun z hz => ?_, List.pairwise_cons.2 h⟩
    rcases List.mem_cons.1 hz with rfl | hz
    ·omega
    ·have := h.1 z hz; omega
theorem insAll_sorted (l : List (Int × Int)) : (insAll l).Pairwise (· < ·) := by
 suffices h : ∀ (l : List (Int × Int)) (o : List Int), o.Pairwise (· < ·) → (l.foldl (fun o s => insL (insL o s.1) s.2) o).Pairwise (· < ·) from h l [] List.Pairwise.nil
 intro l
 induction l with
 | nil => intro o h; exact h
 | cons s r ih => intro o h; exact ih _ (insL_sorted (insL_sorted h))
theorem mem_insAll {s : Int × Int} {l : List (Int × Int)} (h : s ∈ l) : s.1 ∈ insAll l ∧ s.2 ∈ insAll l := by
 have keep : ∀ (l : List (Int × Int)) (o : List Int) (z : Int), z ∈ o → z ∈ l.foldl (fun o s => insL (insL o s.1) s.2) o := by
  intro l
  induction l with
  | nil => intro o z h; exact h
  | cons s r ih => intro o z h; exact ih _ z (mem_insL.2 (Or.inr (mem_insL.2 (Or.inr h))))
 suffices g : ∀ (l : List (Int × Int)) (o : List Int), s ∈ l → s.1 ∈ l.foldl (fun o s => insL (insL o s.1) s.2) o ∧ s.2 ∈ l.foldl (fun o s => insL (insL o s.1) s.2) o from g l [] h
 intro l
 induction l with
 | nil => intro o h; simp at h
 | cons t r ih =>
  intro o h
  rcases List.mem_cons.1 h with rfl | h
  ·exact ⟨keep r _ _ (mem_insL.2 (Or.inr (mem_insL.2 (Or.inl rfl)))), keep r _ _ (mem_insL.2 (Or.inl rfl))⟩
  ·exact ih _ h
theorem combStep_pos (out : List (Int × Int)) (x y : Int) : 0 < (combStep out x y).length := by
 unfold combStep
 split
 ·simp
 ·next s hs =>
  split
  ·rw [List.length_set]
   cases out with
   | nil => simp at hs
   | cons a b => simp
  ·simp
theorem combTo_pos {k : Int} {a b : List (Int × Int)} {p : List Int} : ∀ {n : Nat}, 0 < (combTo k a b p n).length ↔ ∃ j, j < n ∧ inB k (hasB a (p[j]?.getD 0)) (hasB b (p[j]?.getD 0)) = true
 | 0 => by simp [combTo]
 | n + 1 => by
  rw [combTo]
  split
  ·next h => exact ⟨fun _ => ⟨n, by omega, h⟩, fun _ => combStep_pos _ _ _⟩
  ·next h =>
   rw [combTo_pos]
   constructor
   ·rintro ⟨j, hj, hh⟩; exact ⟨j, by omega, hh⟩
   ·rintro ⟨j, hj, hh⟩
    refine ⟨j, ?_, hh⟩
    rcases Nat.lt_succ_iff_lt_or_eq.1 hj with h1 | rfl
    ·exact h1
    ·exact absurd hh h
theorem hasB_iff {l : List (Int × Int)} {t : Int} : hasB l t = true ↔ ∃ s ∈ l, s.1 ≤ t ∧ t < s.2 := by simp [hasB, List.any_eq_true]
theorem meetB_iff {a b : List (Int × Int)} : meetB a b = true ↔ ∃ x ∈ a, ∃ y ∈ b, x.1 < y.2 ∧ y.1 < x.2 := by simp [meetB, List.any_eq_true]
theorem comb_meet {a b : List (Int × Int)} (ha : ∀ s ∈ a, s.1 < s.2) (hb : ∀ s ∈ b, s.1 < s.2) : decide (0 < (combL 1 a b).length) = meetB a b := by
 rw [Bool.eq_iff_iff, decide_eq_true_iff, meetB_iff, combL, combTo_pos]
 have hin : ∀ u v : Bool, inB 1 u v = (u && v) := by intro u v; simp [inB]
 simp only [hin, Bool.and_eq_true, hasB_iff]
 constructor
 ·rintro ⟨j, _, ⟨x, hx, h1, h2⟩, ⟨y, hy, h3, h4⟩⟩
  exact ⟨x, hx, y, hy, by omega, by omega⟩
 ·rintro ⟨x, hx, y, hy, h1, h2⟩
  have hx0 := ha x hx
  have hy0 := hb y hy
  have mx := mem_insAll (List.mem_append_left b hx)
  have my := mem_insAll (List.mem_append_right a hy)
  have hs := insAll_sorted (a ++ b)
  generalize insAll (a ++ b) = p at mx my hs
  have hm : ∃ t ∈ p, x.1 ≤ t ∧ t < x.2 ∧ y.1 ≤ t ∧ t < y.2 := by
   by_cases h : x.1 ≤ y.1
   ·exact ⟨y.1, my.1, h, h2, Int.le_refl _, hy0⟩
   ·exact ⟨x.1, mx.1, Int.le_refl _, hx0, by omega, h1⟩
  obtain ⟨t, ht, t1, t2, t3, t4⟩ := hm
  obtain ⟨i, hi, rfl⟩ := List.mem_iff_getElem.1 ht
  obtain ⟨j, hj, hjx⟩ := List.mem_iff_getElem.1 mx.2
  rw [List.pairwise_iff_getElem] at hs
  have hij : i < j := by
   rcases Nat.lt_trichotomy i j with h | h | h
   ·exact h
   ·subst h; omega
   ·have := hs j i hj hi h; omega
  refine ⟨i, by omega, ?_⟩
  rw [List.getElem?_eq_getElem hi, Option.getD_some]
  exact ⟨⟨x, hx, t1, t2⟩, ⟨y, hy, t3, t4⟩⟩
end Go.Proofs.YtepcdhpikpmepaaGreat
namespace Go.Proofs.YtepcdhpikpmepaaGreat
open Go.RowKit

/-! ### normal lists are told by their instants -/
theorem chainB_cons {p : Option Int} {s : Int × Int} {r : List (Int × Int)} : chainB p (s :: r) = true ↔ s.1 < s.2 ∧ (∀ e, p = some e → e < s.1) ∧ chainB (some s.2) r = true := by
 simp only [chainB, Bool.and_eq_true, decide_eq_true_eq]
 cases p with
 | none => simp
 | some e => simp [and_assoc]
theorem chainB_mem : ∀ {l : List (Int × Int)} {p : Option Int}, chainB p l = true → ∀ s ∈ l, s.1 < s.2 ∧ ∀ e, p = some e → e < s.1
 | [], _, _, s, hs => by cases hs
 | x :: r, p, h, s, hs => by
  obtain ⟨h1, h2, h3⟩ := chainB_cons.1 h
  rcases List.mem_cons.1 hs with rfl | hs
  ·exact ⟨h1, h2⟩
  ·have := chainB_mem h3 s hs
   exact ⟨this.1, fun e he => by have a := h2 e he; have b := this.2 _ rfl; omega⟩
theorem chainB_weak {l : List (Int × Int)} {p : Option Int} (h : chainB p l = true) : chainB none l = true := by
 cases l with
 | nil => rfl
 | cons s r => obtain ⟨a, _, c⟩ := chainB_cons.1 h; exact chainB_cons.2 ⟨a, by simp, c⟩
theorem hasB_cons (s : Int × Int) (r : List (Int × Int)) (t : Int) : hasB (s :: r) t = (decide (s.1 ≤ t) && decide (t < s.2) || hasB r t) := by simp [hasB]
theorem hasB_nil (t : Int) : hasB [] t = false := rfl
theorem hasB_app (a b : List (Int × Int)) (t : Int) : hasB (a ++ b) t = (hasB a t || hasB b t) := by simp [hasB]
theorem has_behind {l : List (Int × Int)} {e t : Int} (h : chainB (some e) l = true) (ht : t ≤ e) : hasB l t = false := by
 rw [← Bool.not_eq_true, hasB_iff]
 rintro ⟨s, hs, h1, h2⟩
 have := (chainB_mem h s hs).2 e rfl
 omega
theorem chain_unique : ∀ {l m : List (Int × Int)}, chainB none l = true → chainB none m = true → (∀ t, hasB l t = hasB m t) → l = m
 | [], [], _, _, _ => rfl
 | [], s :: r, _, hm, h => by
  obtain ⟨a, _, _⟩ := chainB_cons.1 hm
  have := h s.1
  rw [hasB_cons] at this
  simp [hasB_nil, a] at this
 | s :: r, [], hl, _, h => by
  obtain ⟨a, _, _⟩ := chainB_cons.1 hl
  have := h s.1
  rw [hasB_cons] at this
  simp [hasB_nil, a] at this
 | s :: r, s' :: r', hl, hm, h => by
  obtain ⟨a, _, c⟩ := chainB_cons.1 hl
  obtain ⟨a', _, c'⟩ := chainB_cons.1 hm
  obtain ⟨x, y⟩ := s
  obtain ⟨x', y'⟩ := s'
  dsimp only at *
  have low : ∀ {x y : Int} {r : List (Int × Int)}, x < y → chainB (some y) r = true → ∀ t, t ≤ y → hasB ((x, y) :: r) t = (decide (x ≤ t) && decide (t < y)) := fun {x y r} _ hc t ht => by
   rw [hasB_cons, has_behind hc ht, Bool.or_false]
  have e1 : x = x' := by
   rcases Int.lt_trichotomy x x' with hlt | he | hgt
   ·have h1 := h x
    rw [low a c x (by omega), low a' c' x (by omega)] at h1
    have h2 := congrArg (· = true) h1
    simp only [Bool.and_eq_true, decide_eq_true_eq, eq_iff_iff] at h2
    omega
   ·exact he
   ·have h1 := h x'
    rw [low a c x' (by omega), low a' c' x' (by omega)] at h1
    have h2 := congrArg (· = true) h1
    simp only [Bool.and_eq_true, decide_eq_true_eq, eq_iff_iff] at h2
    omega
  subst e1
  have e2 : y = y' := by
   rcases Int.lt_trichotomy y y' with hlt | he | hgt
   ·have h1 := h y
    rw [low a c y (by omega), low a' c' y (by omega)] at h1
    have h2 := congrArg (· = true) h1
    simp only [Bool.and_eq_true, decide_eq_true_eq, eq_iff_iff] at h2
    omega
   ·exact he
   ·have h1 := h y'
    rw [low a c y' (by omega), low a' c' y' (by omega)] at h1
    have h2 := congrArg (· = true) h1
    simp only [Bool.and_eq_true, decide_eq_true_eq, eq_iff_iff] at h2
    omega
  subst e2
  have hr : ∀ t, hasB r t = hasB r' t := fun t => by
   rcases Int.lt_or_le y t with hlt | hle
   ·have h1 := h t
    rw [hasB_cons, hasB_cons] at h1
    have e : decide (t < y) = false := by simpa using Int.le_of_lt hlt
    simpa [e] using h1
   ·rw [has_behind c hle, has_behind c' hle]
  rw [chain_unique (chainB_weak c) (chainB_weak c') hr]

/-! ### a run over sorted places -/
def runTo (pts : List Int) (f : Nat → Bool) : Nat → List (Int × Int)
 | 0 => []
 | i + 1 => if i + 1 < pts.length ∧ pts[i]?.getD 0 < pts[i + 1]?.getD 0 ∧ f i = true then combStep (runTo pts f i) (pts[i]?.getD 0) (pts[i + 1]?.getD 0) else runTo pts f i

def EndsBy (l : List (Int × Int)) (e : Int) : Prop := ∀ s ∈ l, s.2 ≤ e
theorem chainB_app : ∀ {l : List (Int × Int)} {p : Option Int} {x y : Int}, chainB p l = true → x < y → (∀ e, p = some e → e < x) → (∀ s ∈ l, s.2 < x) → chainB p (l ++ [(x, y)]) = true
 | [], p, x, y, _, h2, h3, _ => by rw [List.nil_append]; exact chainB_cons.2 ⟨h2, h3, rfl⟩
 | s :: r, p, x, y, h1, h2, h3, h4 => by
  obtain ⟨a, b, c⟩ := chainB_cons.1 h1
  rw [List.cons_append]
  exact chainB_cons.2 ⟨a, b, chainB_app c h2 (fun e he => by cases he; exact h4 s List.mem_cons_self) fun q hq => h4 q (List.mem_cons_of_mem _ hq)⟩
theorem chainB_init : ∀ {l : List (Int × Int)} {p : Option Int} {x y : Int}, chainB p (l ++ [(x, y)]) = true → chainB p l = true ∧ x < y ∧ (∀ s ∈ l, s.2 < x) ∧ ∀ e, p = some e → e < x
 | [], p, x, y, h => by
  rw [List.nil_append] at h
  obtain ⟨a, b, _⟩ := chainB_cons.1 h
  exact ⟨rfl, a, by simp, b⟩
 | s :: r, p, x, y, h => by
  rw [List.cons_append] at h
  obtain ⟨a, b, c⟩ := chainB_cons.1 h
  obtain ⟨d, e, f, g⟩ := chainB_init c
  refine ⟨chainB_cons.2 ⟨a, b, d⟩, e, fun q hq => ?_, fun z hz => ?_⟩
  ·rcases List.mem_cons.1 hq with rfl | hq
   ·exact g _ rfl
   ·exact f q hq
  ·have := b z hz; have := g _ rfl; omega
theorem list_last {α : Type} {l : List α} (h : l ≠ []) : ∃ r x, l = r ++ [x] := ⟨l.dropLast, l.getLast h, (List.dropLast_concat_getLast h).symm⟩
theorem combStep_new {out : List (Int × Int)} {x y : Int} (h : ∀ s ∈ out, s.2 < x) : combStep out x y = out ++ [(x, y)] := by
 unfold combStep
 cases hl : out.getLast? with
 | none => rfl
 | some s =>
  have := h s (List.mem_of_getLast? hl)
  simp only
  rw [if_neg (by omega)]
theorem combStep_join {out : List (Int × Int)} {u x y : Int} : combStep (out ++ [(u, x)]) x y = out ++ [(u, y)] := by
 unfold combStep
 rw [List.getLast?_concat]
 simp
structure RunIs (pts : List Int) (g : Int → Bool) (out : List (Int × Int)) (e : Int) : Prop where
 chain : chainB none out = true
 ends : EndsBy out e
 has : ∀ t, t < e → hasB out t = g t
 mem : ∀ s ∈ out, s.1 ∈ pts ∧ s.2 ∈ pts
theorem has_ends {out : List (Int × Int)} {e t : Int} (h : EndsBy out e) (ht : e ≤ t) : hasB out t = false := by
 rw [← Bool.not_eq_true, hasB_iff]
 rintro ⟨s, hs, _, h2⟩
 have := h s hs
 omega
theorem RunIs.step {pts : List Int} {g : Int → Bool} {out : List (Int × Int)} {x y : Int} (h : RunIs pts g out x) (hxy : x < y) (hg : ∀ t, x ≤ t → t < y → g t = true) (hx : x ∈ pts) (hy : y ∈ pts) : RunIs pts g (combStep out x y) y := by
 by_cases hl : ∀ s ∈ out, s.2 < x
 ·rw [combStep_new hl]
  refine ⟨chainB_app h.chain hxy (by simp) hl, fun s hs => ?_, fun t ht => ?_, fun s hs => ?_⟩
  ·rcases List.mem_append.1 hs with hs | hs
   ·have := hl s hs; omega
   ·simp at hs; subst hs; exact Int.le_refl _
  ·rw [hasB_app, hasB_cons, hasB_nil, Bool.or_false]
   rcases Int.lt_or_le t x with h1 | h1
   ·rw [h.has t h1, decide_eq_false (show ¬ x ≤ t by omega)]; simp
   ·rw [has_ends h.ends h1, hg t h1 ht]; simp [h1, ht]
  ·rcases List.mem_append.1 hs with hs | hs
   ·exact h.mem s hs
   ·simp at hs; subst hs; exact ⟨hx, hy⟩
 ·have hne : out ≠ [] := by rintro rfl; exact hl (by simp)
  obtain ⟨r, ⟨u, v⟩, rfl⟩ := list_last hne
  obtain ⟨c1, c2, c3, _⟩ := chainB_init h.chain
  have hv : v = x := by
   have h1 : v ≤ x := h.ends (u, v) (by simp)
   rcases Int.lt_or_le v x with h2 | h2
   ·exfalso
    apply hl
    intro s hs
    rcases List.mem_append.1 hs with hs | hs
    ·have := c3 s hs; omega
    ·simp at hs; subst hs; exact h2
   ·omega
  subst hv
  rw [combStep_join]
  refine ⟨chainB_app c1 (by omega) (by simp) c3, fun s hs => ?_, fun t ht => ?_, fun s hs => ?_⟩
  ·rcases List.mem_append.1 hs with hs | hs
   ·have := c3 s hs; omega
   ·simp at hs; subst hs; exact Int.le_refl _
  ·have h0 := h.has t
   rw [hasB_app, hasB_cons, hasB_nil, Bool.or_false] at h0 ⊢
   rcases Int.lt_or_le t v with h1 | h1
   ·rw [← h0 h1]; simp [h1, show t < y by omega]
   ·rw [hg t h1 ht]
    simp [show u ≤ t by omega, ht]
  ·rcases List.mem_append.1 hs with hs | hs
   ·exact h.mem s (List.mem_append_left _ hs)
   ·simp at hs; subst hs; exact ⟨(h.mem (u, v) (by simp)).1, hy⟩
theorem RunIs.skip {pts : List Int} {g : Int → Bool} {out : List (Int × Int)} {x y : Int} (h : RunIs pts g out x) (hxy : x ≤ y) (hg : ∀ t, x ≤ t → t < y → g t = false) : RunIs pts g out y :=
 ⟨h.chain, fun s hs => by have := h.ends s hs; omega, fun t ht => by
  rcases Int.lt_or_le t x with h1 | h1
  ·exact h.has t h1
  ·rw [has_ends h.ends h1, hg t h1 ht], h.mem⟩
theorem run_inv {pts : List Int} {f : Nat → Bool} {g : Int → Bool} (hs : pts.Pairwise (· ≤ ·)) (hf : ∀ (i : Nat) (x y : Int), pts[i]? = some x → pts[i + 1]? = some y → ∀ t, x ≤ t → t < y → g t = f i)
  (h0 : ∀ x, pts[0]? = some x → ∀ t, t < x → g t = false) : ∀ (i : Nat) (x : Int), pts[i]? = some x → RunIs pts g (runTo pts f i) x
 | 0, x, hx => ⟨rfl, (by intro s hs; cases hs), (fun t ht => by rw [h0 x hx t ht]; rfl), (by intro s hs; cases hs)⟩
 | i + 1, y, hy => by
  have hlt := (List.getElem?_eq_some_iff.1 hy).1
  obtain ⟨x, hx⟩ : ∃ x, pts[i]? = some x := ⟨_, List.getElem?_eq_getElem (by omega)⟩
  have ih := run_inv hs hf h0 i x hx
  have hxy : x ≤ y := by
   rw [List.pairwise_iff_getElem] at hs
   have := hs i (i + 1) (by omega) hlt (by omega)
   rw [(List.getElem?_eq_some_iff.1 hx).2, (List.getElem?_eq_some_iff.1 hy).2] at this
   exact this
  rw [runTo, hx, hy]
  simp only [Option.getD_some]
  split
  ·next h => exact ih.step h.2.1 (fun t h1 h2 => by rw [hf i x y hx hy t h1 h2]; exact h.2.2) (List.mem_of_getElem? hx) (List.mem_of_getElem? hy)
  ·next h =>
   refine ih.skip hxy fun t h1 h2 => ?_
   rw [hf i x y hx hy t h1 h2]
   rw [← Bool.not_eq_true]
   exact fun hh => h ⟨hlt, by omega, hh⟩
theorem run_is {pts : List Int} {f : Nat → Bool} {g : Int → Bool} (hs : pts.Pairwise (· ≤ ·)) (hf : ∀ (i : Nat) (x y : Int), pts[i]? = some x → pts[i + 1]? = some y → ∀ t, x ≤ t → t < y → g t = f i)
  (h0 : ∀ t, (∀ x ∈ pts, t < x) → g t = false) (h1 : ∀ t, (∀ x ∈ pts, x ≤ t) → g t = false) :
  chainB none (runTo pts f pts.length) = true ∧ (∀ t, hasB (runTo pts f pts.length) t = g t) ∧ ∀ s ∈ runTo pts f pts.length, s.1 ∈ pts ∧ s.2 ∈ pts := by
 have low : ∀ x, pts[0]? = some x → ∀ y ∈ pts, x ≤ y := fun x hx y hy => by
  obtain ⟨j, hj⟩ := List.mem_iff_getElem?.1 hy
  rcases j with _ | j
  ·rw [hx] at hj; cases hj; exact Int.le_refl _
  ·rw [List.pairwise_iff_getElem] at hs
   have hl := (List.getElem?_eq_some_iff.1 hj).1
   have := hs 0 (j + 1) (by omega) hl (by omega)
   rw [(List.getElem?_eq_some_iff.1 hx).2, (List.getElem?_eq_some_iff.1 hj).2] at this
   exact this
 cases hp : pts.length with
 | zero =>
  have hn : pts = [] := List.eq_nil_of_length_eq_zero hp
  subst hn
  exact ⟨rfl, (fun t => by rw [h0 t (by simp)]; rfl), (by intro s hs; cases hs)⟩
 | succ n =>
  obtain ⟨x, hx⟩ : ∃ x, pts[n]? = some x := ⟨_, List.getElem?_eq_getElem (by omega)⟩
  have inv := run_inv (f := f) hs hf (fun x hx t ht => h0 t fun y hy => by have := low x hx y hy; omega) n x hx
  have e : runTo pts f (n + 1) = runTo pts f n := by rw [runTo, if_neg (by omega)]
  rw [e]
  refine ⟨inv.chain, fun t => ?_, inv.mem⟩
  rcases Int.lt_or_le t x with h | h
  ·exact inv.has t h
  ·rw [has_ends inv.ends h, h1 t fun y hy => ?_]
   obtain ⟨j, hj⟩ := List.mem_iff_getElem?.1 hy
   have hl := (List.getElem?_eq_some_iff.1 hj).1
   rcases Nat.lt_or_ge j n with hjn | hjn
   ·rw [List.pairwise_iff_getElem] at hs
    have := hs j n hl (by omega) hjn
    rw [(List.getElem?_eq_some_iff.1 hx).2, (List.getElem?_eq_some_iff.1 hj).2] at this
    omega
   ·obtain rfl : j = n := by omega
    rw [hx] at hj; cases hj; exact h

/-! ### the reference -/
theorem has_const {l : List (Int × Int)} {x t : Int} (hxt : x ≤ t) (h : ∀ s ∈ l, (s.1 ≤ x ∨ t < s.1) ∧ (s.2 ≤ x ∨ t < s.2)) : hasB l t = hasB l x := by
 rw [Bool.eq_iff_iff, hasB_iff, hasB_iff]
 constructor
 ·rintro ⟨s, hs, h1, h2⟩
  have := h s hs
  exact ⟨s, hs, by omega, by omega⟩
 ·rintro ⟨s, hs, h1, h2⟩
  have := h s hs
  exact ⟨s, hs, by omega, by omega⟩
theorem insAll_only {z : Int} {l : List (Int × Int)} (h : z ∈ insAll l) : ∃ s ∈ l, z = s.1 ∨ z = s.2 := by
 suffices g : ∀ (l : List (Int × Int)) (o : List Int), z ∈ l.foldl (fun o s => insL (insL o s.1) s.2) o → z ∈ o ∨ ∃ s ∈ l, z = s.1 ∨ z = s.2 by
  rcases g l [] h with h | h
  ·cases h
  ·exact h
 intro l
 induction l with
 | nil => intro o h; exact Or.inl h
 | cons s r ih =>
  intro o h
  rcases ih _ h with h | ⟨q, hq, he⟩
  ·rcases mem_insL.1 h with rfl | h
   ·exact Or.inr ⟨s, List.mem_cons_self, Or.inr rfl⟩
   ·rcases mem_insL.1 h with rfl | h
    ·exact Or.inr ⟨s, List.mem_cons_self, Or.inl rfl⟩
    ·exact Or.inl h
  ·exact Or.inr ⟨q, List.mem_cons_of_mem _ hq, he⟩
theorem inB_none (k : Int) : inB k false false = false := by unfold inB; split <;> (try split) <;> rfl
theorem sorted_get {p : List Int} (hs : p.Pairwise (· < ·)) {i j : Nat} {x y : Int} (hx : p[i]? = some x) (hy : p[j]? = some y) : x < y ↔ i < j := by
 rw [List.pairwise_iff_getElem] at hs
 obtain ⟨hi, rfl⟩ := List.getElem?_eq_some_iff.1 hx
 obtain ⟨hj, rfl⟩ := List.getElem?_eq_some_iff.1 hy
 constructor
 ·intro h
  rcases Nat.lt_trichotomy i j with h1 | h1 | h1
  ·exact h1
  ·subst h1; omega
  ·have := hs j i hj hi h1; omega
 ·intro h; exact hs i j hi hj h
theorem comb_run (k : Int) (a b : List (Int × Int)) : combL k a b = runTo (insAll (a ++ b)) (fun i => inB k (hasB a ((insAll (a ++ b))[i]?.getD 0)) (hasB b ((insAll (a ++ b))[i]?.getD 0))) (insAll (a ++ b)).length := by
 unfold combL
 have hs := insAll_sorted (a ++ b)
 generalize insAll (a ++ b) = p at hs
 have main : ∀ n, n ≤ p.length - 1 → combTo k a b p n = runTo p (fun i => inB k (hasB a (p[i]?.getD 0)) (hasB b (p[i]?.getD 0))) n := by
  intro n
  induction n with
  | zero => intro _; rfl
  | succ n ih =>
   intro hn
   rw [combTo, runTo, ih (by omega)]
   have hx : p[n]? = some (p[n]'(by omega)) := List.getElem?_eq_getElem (by omega)
   have hy : p[n + 1]? = some (p[n + 1]'(by omega)) := List.getElem?_eq_getElem (by omega)
   have hlt := (sorted_get hs hx hy).2 (Nat.lt_succ_self n)
   rw [hx, hy]
   simp only [Option.getD_some]
   by_cases hb : inB k (hasB a p[n]) (hasB b p[n]) = true
   ·rw [if_pos hb, if_pos ⟨by omega, hlt, hb⟩]
   ·rw [if_neg hb, if_neg (fun h => hb h.2.2)]
 cases hp : p.length with
 | zero => rw [main 0 (by omega)]
 | succ n =>
  rw [show n + 1 - 1 = n by omega, main n (by omega)]
  rw [runTo, if_neg (by omega)]
theorem comb_is (k : Int) (a b : List (Int × Int)) : chainB none (combL k a b) = true ∧ (∀ t, hasB (combL k a b) t = inB k (hasB a t) (hasB b t)) ∧ ∀ s ∈ combL k a b, s.1 ∈ insAll (a ++ b) ∧ s.2 ∈ insAll (a ++ b) := by
 rw [comb_run]
 have hs := insAll_sorted (a ++ b)
 have hall : ∀ s, s ∈ a ∨ s ∈ b → s.1 ∈ insAll (a ++ b) ∧ s.2 ∈ insAll (a ++ b) := fun s h => mem_insAll (List.mem_append.2 h)
 generalize insAll (a ++ b) = p at hs hall
 refine run_is (g := fun t => inB k (hasB a t) (hasB b t)) (hs.imp Int.le_of_lt) (fun i x y hx hy t h1 h2 => ?_) (fun t ht => ?_) (fun t ht => ?_)
 ·have gap : ∀ z ∈ p, z ≤ x ∨ t < z := fun z hz => by
   obtain ⟨j, hj⟩ := List.mem_iff_getElem?.1 hz
   rcases Nat.lt_or_ge i j with h | h
   ·right
    rcases Nat.lt_or_ge (i + 1) j with h3 | h3
    ·have := (sorted_get hs hy hj).2 h3; omega
    ·obtain rfl : j = i + 1 := by omega
     rw [hy] at hj; cases hj; exact h2
   ·left
    rcases Nat.lt_or_ge j i with h3 | h3
    ·have := (sorted_get hs hj hx).2 h3; omega
    ·obtain rfl : j = i := by omega
     rw [hx] at hj; cases hj; exact Int.le_refl _
  (try dsimp only)
  rw [hx, Option.getD_some, has_const h1 (fun s hs' => ⟨gap _ (hall s (Or.inl hs')).1, gap _ (hall s (Or.inl hs')).2⟩), has_const h1 (fun s hs' => ⟨gap _ (hall s (Or.inr hs')).1, gap _ (hall s (Or.inr hs')).2⟩)]
 ·have no : ∀ l : List (Int × Int), (∀ s ∈ l, s.1 ∈ p ∧ s.2 ∈ p) → hasB l t = false := fun l hl => by
   rw [← Bool.not_eq_true, hasB_iff]
   rintro ⟨s, hs', h1, _⟩
   have := ht _ (hl s hs').1
   omega
  (try dsimp only)
  rw [no a fun s h => hall s (Or.inl h), no b fun s h => hall s (Or.inr h), inB_none]
 ·have no : ∀ l : List (Int × Int), (∀ s ∈ l, s.1 ∈ p ∧ s.2 ∈ p) → hasB l t = false := fun l hl => by
   rw [← Bool.not_eq_true, hasB_iff]
   rintro ⟨s, hs', _, h2⟩
   have := ht _ (hl s hs').2
   omega
  (try dsimp only)
  rw [no a fun s h => hall s (Or.inl h), no b fun s h => hall s (Or.inr h), inB_none]
theorem comb_chain (k : Int) (a b : List (Int × Int)) : chainB none (combL k a b) = true := (comb_is k a b).1
theorem comb_has (k : Int) (a b : List (Int × Int)) (t : Int) : hasB (combL k a b) t = inB k (hasB a t) (hasB b t) := (comb_is k a b).2.1 t
theorem comb_ranged {k : Int} {a b : List (Int × Int)} (ha : rangedB a = true) (hb : rangedB b = true) : rangedB (combL k a b) = true := by
 unfold rangedB at *
 rw [List.all_eq_true] at *
 have far : ∀ z ∈ insAll (a ++ b), farB z = false := fun z hz => by
  obtain ⟨s, hs, h⟩ := insAll_only hz
  have : (!(farB s.1 || farB s.2)) = true := by
   rcases List.mem_append.1 hs with h1 | h1
   ·exact ha s h1
   ·exact hb s h1
  simp only [Bool.not_eq_true', Bool.or_eq_false_iff] at this
  rcases h with rfl | rfl
  ·exact this.1
  ·exact this.2
 intro s hs
 have := (comb_is k a b).2.2 s hs
 rw [far _ this.1, far _ this.2]
 rfl
theorem comb_normal {k : Int} {a b : List (Int × Int)} (ha : rangedB a = true) (hb : rangedB b = true) : normalB (combL k a b) = true := by
 rw [normalB, comb_chain, comb_ranged ha hb]; rfl
theorem comb_eq {k : Int} {a b l : List (Int × Int)} (h1 : chainB none l = true) (h2 : ∀ t, hasB l t = inB k (hasB a t) (hasB b t)) : l = combL k a b :=
 chain_unique h1 (comb_chain k a b) fun t => by rw [h2, comb_has]

/-! ### the sweep -/
structure BdD where
 at_ : Int
 lst : Int
 by_ : Int
 deriving DecidableEq, Inhabited
def bdsL (j : Int) (l : List (Int × Int)) : List BdD := l.flatMap fun s => if s.1 < s.2 then [⟨s.1, j, 1⟩, ⟨s.2, j, -1⟩] else []
def cntB (j t : Int) : List BdD → Int
 | [] => 0
 | b :: r => (if b.lst = j ∧ b.at_ ≤ t then b.by_ else 0) + cntB j t r
theorem cntB_app (j t : Int) : ∀ (a b : List BdD), cntB j t (a ++ b) = cntB j t a + cntB j t b
 | [], b => by simp [cntB]
 | x :: r, b => by rw [List.cons_append, cntB, cntB, cntB_app j t r b]; omega
theorem cntB_perm {j t : Int} {a b : List BdD} (h : a.Perm b) : cntB j t a = cntB j t b := by
 induction h with
 | nil => rfl
 | cons x _ ih => rw [cntB, cntB, ih]
 | swap x y l => simp only [cntB]; omega
 | trans _ _ ih1 ih2 => rw [ih1, ih2]
theorem cntB_other {i j t : Int} (h : i ≠ j) : ∀ l : List (Int × Int), cntB i t (bdsL j l) = 0
 | [] => rfl
 | s :: r => by
  have ih := cntB_other (t := t) h r
  unfold bdsL at *
  rw [List.flatMap_cons, cntB_app, ih]
  split
  ·simp [cntB, Ne.symm h]
  ·simp [cntB]
theorem cntB_has (j t : Int) : ∀ l : List (Int × Int), 0 ≤ cntB j t (bdsL j l) ∧ (0 < cntB j t (bdsL j l) ↔ hasB l t = true)
 | [] => by simp [bdsL, cntB, hasB]
 | s :: r => by
  have ih := cntB_has j t r
  unfold bdsL at *
  rw [List.flatMap_cons, cntB_app, hasB_cons]
  generalize cntB j t (r.flatMap fun s => if s.1 < s.2 then [⟨s.1, j, 1⟩, ⟨s.2, j, -1⟩] else []) = c at *
  have e : cntB j t (if s.1 < s.2 then [⟨s.1, j, 1⟩, ⟨s.2, j, -1⟩] else []) = if s.1 ≤ t ∧ t < s.2 then 1 else 0 := by
   by_cases h0 : s.1 < s.2
   ·rw [if_pos h0]
    simp only [cntB]
    by_cases h1 : s.1 ≤ t
    ·by_cases h2 : s.2 ≤ t
     ·rw [if_pos ⟨trivial, h1⟩, if_pos ⟨trivial, h2⟩, if_neg (by omega)]; omega
     ·rw [if_pos ⟨trivial, h1⟩, if_neg (by simp; omega), if_pos (by omega)]; omega
    ·rw [if_neg (by simp; omega), if_neg (by simp; omega), if_neg (by omega)]; omega
   ·rw [if_neg h0, if_neg (by omega)]; rfl
  rw [e]
  by_cases h : s.1 ≤ t ∧ t < s.2
  ·rw [if_pos h]
   simp only [decide_eq_true h.1, decide_eq_true h.2, Bool.and_true, Bool.true_or, iff_true]
   omega
  ·rw [if_neg h]
   have : (decide (s.1 ≤ t) && decide (t < s.2)) = false := by simpa using fun h1 => by simpa [h1] using h
   rw [this, Bool.false_or]
   refine ⟨by omega, ?_⟩
   rw [← ih.2]
   omega
def openB (all : List BdD) (j : Int) : Nat → Int
 | 0 => 0
 | n + 1 => openB all j n + (if (all[n]?.getD default).lst = j then (all[n]?.getD default).by_ else 0)
theorem openB_take (all : List BdD) (j : Int) : ∀ n, n ≤ all.length → ∀ t, (∀ b ∈ all.take n, b.at_ ≤ t) → openB all j n = cntB j t (all.take n)
 | 0, _, _, _ => by simp [openB, cntB]
 | n + 1, hn, t, h => by
  have e : all[n]? = some (all[n]'(by omega)) := List.getElem?_eq_getElem (by omega)
  rw [List.take_add_one, e] at h ⊢
  rw [openB, openB_take all j n (by omega) t (fun b hb => h b (List.mem_append_left _ hb)), Option.toList_some, cntB_app]
  have h1 := h (all[n]'(by omega)) (List.mem_append_right _ (by simp))
  simp only [e, Option.getD_some, cntB, Int.add_zero]
  by_cases hj : (all[n]'(by omega)).lst = j
  ·rw [if_pos hj, if_pos ⟨hj, h1⟩]
  ·rw [if_neg hj, if_neg (fun h => hj h.1)]
theorem cntB_late {j t : Int} : ∀ {l : List BdD}, (∀ b ∈ l, t < b.at_) → cntB j t l = 0
 | [], _ => rfl
 | b :: r, h => by
  rw [cntB, cntB_late fun q hq => h q (List.mem_cons_of_mem _ hq), if_neg (by have := h b List.mem_cons_self; omega)]
  rfl
def sweepL (keep : Bool → Bool → Bool) (all : List BdD) (n : Nat) : List (Int × Int) :=
 runTo (all.map (·.at_)) (fun i => keep (decide (0 < openB all 0 (i + 1))) (decide (0 < openB all 1 (i + 1)))) n
theorem sweep_is {k : Int} {a b : List (Int × Int)} {all : List BdD} (hp : all.Perm (bdsL 0 a ++ bdsL 1 b)) (hs : all.Pairwise fun x y => x.at_ ≤ y.at_) : sweepL (inB k) all all.length = combL k a b := by
 have c0 : ∀ t, cntB 0 t all = cntB 0 t (bdsL 0 a) := fun t => by rw [cntB_perm hp, cntB_app, cntB_other (i := 0) (j := 1) (by decide)]; omega
 have c1 : ∀ t, cntB 1 t all = cntB 1 t (bdsL 1 b) := fun t => by rw [cntB_perm hp, cntB_app, cntB_other (i := 1) (j := 0) (by decide)]; omega
 have hA : ∀ t, decide (0 < cntB 0 t all) = hasB a t := fun t => by rw [Bool.eq_iff_iff, decide_eq_true_iff, c0, (cntB_has 0 t a).2]
 have hB : ∀ t, decide (0 < cntB 1 t all) = hasB b t := fun t => by rw [Bool.eq_iff_iff, decide_eq_true_iff, c1, (cntB_has 1 t b).2]
 have hm : ∀ (j : Nat) (l : List (Int × Int)), ∀ s ∈ l, s.1 < s.2 → (⟨s.1, j, 1⟩ : BdD) ∈ bdsL j l ∧ (⟨s.2, j, -1⟩ : BdD) ∈ bdsL j l := fun j l s hs h => by
  unfold bdsL
  constructor
  ·rw [List.mem_flatMap]; exact ⟨s, hs, by rw [if_pos h]; simp⟩
  ·rw [List.mem_flatMap]; exact ⟨s, hs, by rw [if_pos h]; simp⟩
 have hin : ∀ (s : Int × Int), s.1 < s.2 → (s ∈ a ∨ s ∈ b) → s.1 ∈ all.map (·.at_) ∧ s.2 ∈ all.map (·.at_) := fun s h hh => by
  rw [List.mem_map, List.mem_map]
  rcases hh with hh | hh
  ·exact ⟨⟨_, hp.mem_iff.2 (List.mem_append_left _ (hm 0 a s hh h).1), rfl⟩, ⟨_, hp.mem_iff.2 (List.mem_append_left _ (hm 0 a s hh h).2), rfl⟩⟩
  ·exact ⟨⟨_, hp.mem_iff.2 (List.mem_append_right _ (hm 1 b s hh h).1), rfl⟩, ⟨_, hp.mem_iff.2 (List.mem_append_right _ (hm 1 b s hh h).2), rfl⟩⟩
 have key : ∀ (j : Int) (i : Nat) (x y : Int), (all.map (·.at_))[i]? = some x → (all.map (·.at_))[i + 1]? = some y → ∀ t, x ≤ t → t < y → openB all j (i + 1) = cntB j t all := by
  intro j i x y hx hy t h1 h2
  rw [List.getElem?_map] at hx hy
  obtain ⟨p, hp', rfl⟩ := Option.map_eq_some_iff.1 hx
  obtain ⟨q, hq', rfl⟩ := Option.map_eq_some_iff.1 hy
  have hl := (List.getElem?_eq_some_iff.1 hq').1
  have hs' := hs
  rw [List.pairwise_iff_getElem] at hs'
  have hpi := (List.getElem?_eq_some_iff.1 hp').2
  have hqi := (List.getElem?_eq_some_iff.1 hq').2
  rw [openB_take all j (i + 1) (by omega) t ?_]
  ·conv => rhs; rw [← List.take_append_drop (i + 1) all]
   rw [cntB_app, cntB_late (l := all.drop (i + 1)), Int.add_zero]
   intro c hc
   obtain ⟨m, hm', rfl⟩ := List.mem_iff_getElem.1 hc
   rw [List.length_drop] at hm'
   rw [List.getElem_drop]
   rcases Nat.eq_zero_or_pos m with rfl | hm0
   ·simp only [Nat.add_zero, hqi]; exact h2
   ·have := hs' (i + 1) (i + 1 + m) hl (by omega) (by omega)
    rw [hqi] at this; omega
  ·intro c hc
   obtain ⟨m, hm', rfl⟩ := List.mem_iff_getElem.1 hc
   rw [List.length_take] at hm'
   rw [List.getElem_take]
   rcases Nat.lt_or_ge m i with h | h
   ·have := hs' m i (by omega) (by omega) h
    rw [hpi] at this; omega
   ·obtain rfl : m = i := by omega
    rw [hpi]; exact h1
 have hlen : all.length = (all.map (·.at_)).length := by simp
 have run := run_is (pts := all.map (·.at_)) (f := fun i => inB k (decide (0 < openB all 0 (i + 1))) (decide (0 < openB all 1 (i + 1)))) (g := fun t => inB k (hasB a t) (hasB b t))
  (by rw [List.pairwise_map]; exact hs)
  (fun i x y hx hy t h1 h2 => by
   (try dsimp only)
   rw [key 0 i x y hx hy t h1 h2, key 1 i x y hx hy t h1 h2, hA, hB])
  (fun t ht => by
   have no : ∀ l : List (Int × Int), (∀ s ∈ l, s.1 < s.2 → s.1 ∈ all.map (·.at_) ∧ s.2 ∈ all.map (·.at_)) → hasB l t = false := fun l hl => by
    rw [← Bool.not_eq_true, hasB_iff]
    rintro ⟨s, hs', h1, h2⟩
    have := ht _ (hl s hs' (by omega)).1
    omega
   (try dsimp only)
   rw [no a fun s h h' => hin s h' (Or.inl h), no b fun s h h' => hin s h' (Or.inr h), inB_none])
  (fun t ht => by
   have no : ∀ l : List (Int × Int), (∀ s ∈ l, s.1 < s.2 → s.1 ∈ all.map (·.at_) ∧ s.2 ∈ all.map (·.at_)) → hasB l t = false := fun l hl => by
    rw [← Bool.not_eq_true, hasB_iff]
    rintro ⟨s, hs', h1, h2⟩
    have := ht _ (hl s hs' (by omega)).2
    omega
   (try dsimp only)
   rw [no a fun s h h' => hin s h' (Or.inl h), no b fun s h h' => hin s h' (Or.inr h), inB_none])
 unfold sweepL
 rw [hlen]
 exact comb_eq run.1 run.2.1
end Go.Proofs.YtepcdhpikpmepaaGreat
