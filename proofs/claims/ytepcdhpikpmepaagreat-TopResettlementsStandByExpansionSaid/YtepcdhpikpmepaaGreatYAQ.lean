/- Walks of package span: bounds, with the sort. -/
import Derived.Test.YtepcdhpikpmepaaGreatRAQ
import Derived.Test.YtepcdhpikpmepaaGreatYSQ
namespace Go.Proofs.YtepcdhpikpmepaaGreat
open Go.RowKit

def bdEnc (b : BdD) : List Value := [.int .i64 b.at_, .int .i64 b.lst, .int .i64 b.by_]
def bdCells (l : List BdD) : List Value := l.flatMap bdEnc
theorem bdCells_app (a b : List BdD) : bdCells (a ++ b) = bdCells a ++ bdCells b := by simp [bdCells]
theorem bdCells_len : ∀ l : List BdD, (bdCells l).length = l.length * 3
 | [] => rfl
 | b :: r => by have := bdCells_len r; unfold bdCells at *; rw [List.flatMap_cons, List.length_append, this, List.length_cons]; simp [bdEnc]; omega
theorem bdCells_at : ∀ {l : List BdD} (i : Nat) (b : BdD), l[i]? = some b → (bdCells l)[i * 3]? = some (.int .i64 b.at_) ∧ (bdCells l)[i * 3 + 1]? = some (.int .i64 b.lst) ∧ (bdCells l)[i * 3 + 2]? = some (.int .i64 b.by_)
 | [], i, b, h => by simp at h
 | x :: r, 0, b, h => by simp at h; subst h; exact ⟨rfl, rfl, rfl⟩
 | x :: r, i + 1, b, h => by
  have := bdCells_at (l := r) i b (by simpa using h)
  have e : ∀ j, (bdCells (x :: r))[(i + 1) * 3 + j]? = (bdCells r)[i * 3 + j]? := fun j => by
   rw [show (i + 1) * 3 + j = (i * 3 + j) + 1 + 1 + 1 by omega]; rfl
  exact ⟨(e 0).trans this.1, (e 1).trans this.2.1, (e 2).trans this.2.2⟩
def BdsO (w : World) (B : Nat) (v : Value) (l : List BdD) : Prop := w.ownsRow B 190 3 v l.length (bdCells l)
theorem bd_info : (Tryz.prog.info? 190).map (fun i => (i.zero, i.size, i.bytes)) = some (some (.agg #[.int .i64 0, .int .i64 0, .int .i64 0]), 3, 24) := by kernel_rfl
theorem BdsO.nil (w : World) (B : Nat) : BdsO w B (.slice none 0 0) [] := World.ownsRow_nil _ _ _ _
theorem BdsO.ext {w w' : World} {B : Nat} {v : Value} {l : List BdD} (h : BdsO w B v l) (k : Ext w w') : BdsO w' B v l := owns_ext h k

/-! ### the flat row -/
theorem flat_bd (l : List BdD) : Sort.flatK bdEnc 3 l.toArray = (bdCells l).toArray := by
 refine Sort.ext_get! (by simp [bdCells_len]) fun t ht => ?_
 have ht' : t < l.length * 3 := by simpa using ht
 rw [Sort.get_flatK _ _ _ _ (by simpa using ht')]
 have hi : t / 3 < l.length := by omega
 obtain ⟨h0, h1, h2⟩ := bdCells_at (t / 3) l[t / 3] (List.getElem?_eq_getElem hi)
 have e : l.toArray[t / 3]! = l[t / 3] := by simp [hi]
 rw [e]
 have hm : t % 3 = 0 ∨ t % 3 = 1 ∨ t % 3 = 2 := by omega
 have g : ∀ v, (bdCells l)[t]? = some v → (bdCells l).toArray[t]! = v := fun v hv => by simp [hv]
 rcases hm with h | h | h
 ·rw [show t / 3 * 3 = t by omega] at h0; rw [g _ h0, h]; rfl
 ·rw [show t / 3 * 3 + 1 = t by omega] at h1; rw [g _ h1, h]; rfl
 ·rw [show t / 3 * 3 + 2 = t by omega] at h2; rw [g _ h2, h]; rfl
theorem holds_bd {w : World} {B g c : Nat} {l : List BdD} (h : BdsO w B (.slice (some ⟨g, 0, none⟩) l.length c) l) : Sort.HoldsK bdEnc 3 w g 0 l.toArray := by
 unfold Sort.HoldsK
 rw [flat_bd]
 intro j hj
 have hj' : j < l.length * 3 := by simpa [bdCells_len] using hj
 rw [Nat.zero_add]
 refine ⟨?_, h.frozenAt j⟩
 rw [h.cellAt j hj']
 have hl : j < (bdCells l).length := by rw [bdCells_len]; exact hj'
 simp [hl]
theorem put_heap (w : World) (g : Nat) (F : Array Value) (m : Nat) (os : Array Obj) (k : Nat) (hk : k < w.heap.size) : (Sort.grow (Sort.putRow id (Sort.ahead w m) g 0 F) os).heap[k]? =
  if k = g then (w.heap[k]?).map (Sort.onCells (Sort.putCells id 0 F)) else w.heap[k]? := by
 have hs : (Sort.putRow id (Sort.ahead w m) g 0 F).heap.size = w.heap.size := by rw [Sort.size_putRow]; rfl
 have e1 : (Sort.grow (Sort.putRow id (Sort.ahead w m) g 0 F) os).heap[k]? = (Sort.putRow id (Sort.ahead w m) g 0 F).heap[k]? := by
  show ((Sort.putRow id (Sort.ahead w m) g 0 F).heap ++ os)[k]? = _
  rw [Array.getElem?_append_left (by rw [hs]; exact hk)]
 rw [e1]
 show (w.heap.modify g (Sort.onCells (Sort.putCells id 0 F)))[k]? = _
 rw [Array.getElem?_modify]
 by_cases h : k = g
 ·subst h; simp
 ·rw [if_neg h, if_neg (Ne.symm h)]
theorem keep_put (w : World) (g : Nat) (F : Array Value) (m : Nat) (os : Array Obj) : Keep (fun k => k = g) w (Sort.grow (Sort.putRow id (Sort.ahead w m) g 0 F) os) := by
 refine ⟨rfl, rfl, rfl, ?_, fun k hk hx => ?_⟩
 ·show w.heap.size ≤ ((Sort.putRow id (Sort.ahead w m) g 0 F).heap ++ os).size
  rw [Array.size_append, Sort.size_putRow]
  exact Nat.le_add_right _ _
 ·rw [put_heap w g F m os k hk, if_neg hx]
theorem owns_put {w : World} {B size n c g : Nat} {e : TypeId} {xs : List Value} (h : w.ownsRow B e size (.slice (some ⟨g, 0, none⟩) n c) n xs) (F : Array Value) (hF : F.size = n * size) (m : Nat) (os : Array Obj) :
  (Sort.grow (Sort.putRow id (Sort.ahead w m) g 0 F) os).ownsRow B e size (.slice (some ⟨g, 0, none⟩) n c) n F.toList := by
 refine ⟨by simpa using hF, ?_⟩
 have hlt := (h.lt g rfl).2
 rcases h.2 with ⟨h', _⟩ | ⟨g', cap, cur, h', hb, hg, hn, hcap, hcs, htake⟩
 ·cases h'
 ·cases h'
  refine Or.inr ⟨g, c, Sort.putCells id 0 F cur, rfl, hb, ?_, hn, hcap, by simp [Sort.putCells, hcs], ?_⟩
  ·rw [put_heap w g F m os g hlt, if_pos rfl, hg]; rfl
  ·have hle : n * size ≤ c * size := Nat.mul_le_mul_right _ hn
   apply List.ext_getElem?
   intro j
   rw [List.getElem?_take]
   by_cases hj : j < n * size
   ·rw [if_pos hj]
    have h1 : j < cur.size := by omega
    have h2 : j < F.size := by omega
    simp [Sort.putCells, h1, h2]
   ·rw [if_neg hj, List.getElem?_eq_none (by simp; omega)]

/-! ### the comparison -/
def cmpI (x y : Int) : Int := if x < y then -1 else if y < x then 1 else 0
theorem isNaN_calls (x : Int) (w : World) : Calls Tryz.prog 105 #[.int .i64 x] w fun e w' => e = .returned (.bool false) ∧ w' = w := by
 have hx : (x != x) = false := by simp
 go_enter Tryz.func105, Tryz.ntmps105
 go_wp2
 go_ret
 exact ⟨rfl, rfl⟩
theorem compare_calls (x y : Int) (w : World) : Calls Tryz.prog 80 #[.int .i64 x, .int .i64 y] w fun e w' => e = .returned (.int .i64 (cmpI x y)) ∧ w' = w := by
 have n1 := isNaN_calls x
 have n2 := isNaN_calls y
 by_cases h1 : x < y
 ·have R : Hid (cmpI x y = -1) := by show _ = _; simp [cmpI, h1]
  go_enter Tryz.func80, Tryz.ntmps80
  go_wp2_with fail
  refine (n1 _).mono ?_
  rintro e w1 ⟨rfl, rfl⟩
  go_wp2_with fail
  refine (n2 _).mono ?_
  rintro e w2 ⟨rfl, rfl⟩
  go_wp2
  go_ret
  rw [R.out]
  exact ⟨rfl, rfl⟩
 ·by_cases h2 : y < x
  ·have R : Hid (cmpI x y = 1) := by show _ = _; simp [cmpI, h1, h2]
   go_enter Tryz.func80, Tryz.ntmps80
   go_wp2_with fail
   refine (n1 _).mono ?_
   rintro e w1 ⟨rfl, rfl⟩
   go_wp2_with fail
   refine (n2 _).mono ?_
   rintro e w2 ⟨rfl, rfl⟩
   go_wp2
   go_ret
   rw [R.out]
   exact ⟨rfl, rfl⟩
  ·have R : Hid (cmpI x y = 0) := by show _ = _; simp [cmpI, h1, h2]
   go_enter Tryz.func80, Tryz.ntmps80
   go_wp2_with fail
   refine (n1 _).mono ?_
   rintro e w1 ⟨rfl, rfl⟩
   go_wp2_with fail
   refine (n2 _).mono ?_
   rintro e w2 ⟨rfl, rfl⟩
   go_wp2
   go_ret
   rw [R.out]
   exact ⟨rfl, rfl⟩
theorem bdCmp_calls (x y : BdD) (W : World) : Calls Tryz.prog 123 #[.agg (bdEnc x).toArray, .agg (bdEnc y).toArray] W fun e w' => e = .returned (.int .i64 (cmpI x.at_ y.at_)) ∧ ∃ q os', w' = Sort.grow (W.drewN q) os' := by
 obtain ⟨xa, xl, xb⟩ := x
 obtain ⟨ya, yl, yb⟩ := y
 have hcon := fun W' => compare_calls xa ya W'
 show Calls Tryz.prog 123 #[.agg #[.int .i64 xa, .int .i64 xl, .int .i64 xb], .agg #[.int .i64 ya, .int .i64 yl, .int .i64 yb]] W _
 dsimp only
 generalize cmpI xa ya = r at hcon ⊢
 go_enter Tryz.func123, Tryz.ntmps123
 go_wp2_with fail
 refine (hcon _).mono ?_
 rintro e w1 ⟨rfl, rfl⟩
 go_wp2
 go_ret
 exact ⟨rfl, 0, _, by rw [Sort.alloc_eq_grow, Sort.alloc_eq_grow, Sort.grow_grow]; rfl⟩
theorem bd_lt (x y : BdD) : ltOf (fun x y : BdD => cmpI x.at_ y.at_) x y = decide (x.at_ < y.at_) := by
 unfold ltOf cmpI
 by_cases h1 : x.at_ < y.at_
 ·simp [h1]
 ·by_cases h2 : y.at_ < x.at_ <;> simp [h1, h2]
theorem bd_swo : Sort.SWO (ltOf fun x y : BdD => cmpI x.at_ y.at_) where
 irrefl x := by rw [bd_lt]; simp
 trans x y z h1 h2 := by rw [bd_lt] at *; simp at *; omega
 ntrans x y z h1 h2 := by rw [bd_lt] at *; simp at *; omega
def SortedB (l : List BdD) : Prop := l.Pairwise fun x y => x.at_ ≤ y.at_
theorem sorted_of {d : Array BdD} (h : Sort.SortedIn (ltOf fun x y : BdD => cmpI x.at_ y.at_) 0 d.size d) : SortedB d.toList := by
 unfold SortedB
 rw [List.pairwise_iff_getElem]
 intro i j hi hj hij
 have hi' : i < d.size := by simpa using hi
 have hj' : j < d.size := by simpa using hj
 have := h i j (Nat.zero_le _) hij hj'
 rw [bd_lt, getElem!_pos d j hj', getElem!_pos d i hi'] at this
 simp at this
 simpa using this
set_option maxHeartbeats 1000000 in
theorem sortBd_calls (w : World) (B : Nat) (v : Value) (l : List BdD) (h : BdsO w B v l) (hl : l.length ≤ 1000000) :
  Calls Tryz.prog 122 #[v, .func (.func 123) #[] #[]] w fun e w' =>
   e = .returned (.tuple #[]) ∧ ∃ l', l'.Perm l ∧ SortedB l' ∧ BdsO w' B v l' ∧ (l' = [] ∧ w' = w ∨ ∃ g, v.ownBlock = some g ∧ Keep (fun k => k = g) w w') := by
 cases l with
 | nil =>
  obtain ⟨A, c, rfl⟩ := owns_form h
  have hcon := AnyF.slices_SortFunc_none Tryz.sortBdYtepcdhpikpmepaaGreat A c (.func (.func 123) #[] #[]) w
  change Calls Tryz.prog 122 _ _ _ at hcon
  refine hcon.mono ?_
  rintro e w' ⟨rfl, rfl⟩
  exact ⟨rfl, [], List.Perm.refl _, List.Pairwise.nil, h, Or.inl ⟨rfl, rfl⟩⟩
 | cons x r =>
  obtain ⟨g, c, rfl⟩ : ∃ g c, v = .slice (some ⟨g, 0, none⟩) (x :: r).length c := by
   rcases h.2 with ⟨_, h0⟩ | ⟨g, cap, cur, rfl, _⟩
   ·simp at h0
   ·exact ⟨_, _, rfl⟩
  generalize hxl : x :: r = l at *
  have eg : ∀ args w, (callFunc 123 args).run Tryz.prog w = .ok (.enter 123 args) w := enters_of Tryz.func123 (by kernel_rfl) rfl
  have hcon := AnyQ.slices_SortFunc Tryz.sortBdYtepcdhpikpmepaaGreat 3 Tryz.isAgg190 Tryz.sizeOf190 bdEnc (fun _ => rfl) (fun x v hv => by simp [bdEnc] at hv; rcases hv with rfl | rfl | rfl <;> rfl) (fun x y => cmpI x.at_ y.at_) bd_swo 123 #[] g 0 c l.toArray w eg
   (fun _ _ _ _ x y => bdCmp_calls x y _) (holds_bd h) ((h.lt g rfl).2) (by simp; omega)
  change Calls Tryz.prog 122 _ _ _ at hcon
  rw [List.size_toArray] at hcon
  refine hcon.mono ?_
  rintro e w' ⟨rfl, d', n, os, hp, hs, rfl⟩
  obtain ⟨h1, _, h3⟩ := hp
  have hsz : d'.size = l.length := by simpa using h1
  rw [← hsz] at hs
  have hperm : d'.toList.Perm l := by
   have e1 : d'.extract 0 l.length = d' := by rw [← hsz]; simp
   have e2 : l.toArray.extract 0 l.length = l.toArray := by simp
   rw [e1, e2] at h3
   simpa using h3
  refine ⟨rfl, d'.toList, hperm, sorted_of hs, ?_, Or.inr ⟨g, rfl, ?_⟩⟩
  ·have ho := owns_put h (Sort.flatK bdEnc 3 d') (by rw [Sort.size_flatK, hsz]) n os
   have e : Sort.flatK bdEnc 3 d' = (bdCells d'.toList).toArray := by
    have := flat_bd d'.toList
    simpa using this
   unfold BdsO
   rw [hperm.length_eq]
   unfold sortWorldK Sort.putRowK
   rw [e] at ho ⊢
   exact ho
  ·exact keep_put w g _ n os
end Go.Proofs.YtepcdhpikpmepaaGreat
