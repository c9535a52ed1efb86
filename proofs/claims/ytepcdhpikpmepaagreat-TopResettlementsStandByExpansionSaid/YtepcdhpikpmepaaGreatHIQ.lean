import Derived.Test.YtepcdhpikpmepaaGreatPAQ
import Derived.StillTail
namespace Go.Proofs.YtepcdhpikpmepaaGreat
open Go.RowKit

def OnlyN (Q : Exit → Act → World → Prop) : Exit → Act → World → Prop
 | .normal, a, w => Q .normal a w
 | _, _, _ => False
def upL (L : Nat → Bool) (i : Nat) : Nat → Bool := fun j => if j = i then true else L j
def invStep (P : Program) (Q : Exit → Act → World → Prop) (Inv : (Nat → Bool) → Act → World → Prop) (i : Nat) (o : Oper) : Prop :=
 o.guard = none ∧ ∀ L a W, Inv L a W → L i = false → (o.after.all fun e => !Region.binds .any e || L e.on) = true → ∀ K : Act → World → Prop, (∀ a' W', Inv (upL L i) a' W' → K a' W') → o.wp P a W K Q
def invAll (P : Program) (Q : Exit → Act → World → Prop) (Inv : (Nat → Bool) → Act → World → Prop) : List Oper → Nat → Prop
 | [], _ => True
 | o :: r, i => invStep P Q Inv i o ∧ invAll P Q Inv r (i + 1)
def backB (l : List Oper) : Bool := (List.range l.length).all fun j => match l[j]? with | none => true | some o => o.after.all fun e => decide (e.on < j)
section
variable {P : Program} {Q : Exit → Act → World → Prop} {Inv : (Nat → Bool) → Act → World → Prop}
theorem invAll_at : ∀ {l : List Oper} {k i : Nat} {o : Oper}, invAll P Q Inv l k → l[i]? = some o → invStep P Q Inv (k + i) o
 | [], _, _, _, _, h => by simp at h
 | x :: r, k, 0, o, h, hi => by simp at hi; subst hi; exact h.1
 | x :: r, k, i + 1, o, h, hi => by
  have := invAll_at h.2 (i := i) (by simpa using hi)
  rwa [show k + 1 + i = k + (i + 1) by omega] at this
theorem upL_set {listed : Array Bool} {i : Nat} (hi : i < listed.size) : (fun j => (listed.setIfInBounds i true).getD j false) = upL (fun j => listed.getD j false) i := by
 funext j
 unfold upL
 by_cases h : j = i
 ·subst h
  simp [hi]
 ·rw [if_neg h]
  exact getD_set_ne false (fun e => h e.symm)
theorem all_listed {l : List Oper} (hb : backB l = true) {listed : Array Bool} (hs : listed.size = l.length) (hr : Region.ready .any l.toArray listed = []) : ∀ j, j < l.length → listed.getD j false = true := by
 intro j
 induction j using Nat.strongRecOn with
 | ind j ih =>
  intro hj
  cases hl : listed.getD j false with
  | true => rfl
  | false =>
   exfalso
   have hj' : l[j]? = some l[j] := by simp [hj]
   have : j ∈ Region.ready .any l.toArray listed := by
    rw [mem_ready]
    refine ⟨?_, l[j], by simp [hj], fun e he hbi => ?_⟩
    ·have := hl
     simp only [Array.getD_eq_getD_getElem?] at this ⊢
     cases hx : listed[j]? with
     | none => rw [Array.getElem?_eq_none_iff] at hx; omega
     | some y => rw [hx] at this; simpa using this
    ·simp only [backB, List.all_eq_true, List.mem_range] at hb
     have := hb j hj
     rw [hj'] at this
     simp only [Array.all_eq_true_iff_forall_mem] at this
     have h1 := this e he
     have h2 : e.on < j := by simpa using h1
     exact ih _ h2 (by omega)
   rw [hr] at this
   cases this
theorem wpAny_inv {l : List Oper} (hb : backB l = true) (hstep : invAll P Q Inv l 0) (hend : ∀ L a W, Inv L a W → (∀ j, j < l.length → L j = true) → Q .normal a W) :
  ∀ (f : Nat) (s : List Nat) (listed : Array Bool) (a : Act) (W : World), s.length ≤ f → listed.size = l.length → (∀ j, j < l.length → listed.getD j false = false → j ∈ s) → Inv (fun j => listed.getD j false) a W → wpAny P .any l.toArray Q f listed a W
 | f, s, listed, a, W, hf, hs, hin, hI => by
  have hnil : Region.ready .any l.toArray listed = [] → Q .normal a W := fun hr => hend _ _ _ hI (all_listed hb hs hr)
  have hgo : ∀ i ∈ Region.ready .any l.toArray listed, i ∈ s ∧ i < l.length ∧ listed.getD i false = false ∧ ∃ o, l[i]? = some o ∧ (o.after.all fun e => !Region.binds .any e || listed.getD e.on false) = true := fun i hi => by
   obtain ⟨h1, o, ho, hall⟩ := mem_ready.1 hi
   have ho' : l[i]? = some o := by simpa using ho
   have hlt := (List.getElem?_eq_some_iff.1 ho').1
   have hg := getD_both h1
   refine ⟨hin i hlt hg, hlt, hg, o, ho', ?_⟩
   rw [Array.all_eq_true_iff_forall_mem]
   intro e he
   cases hbi : Region.binds .any e with
   | false => rfl
   | true => simpa using hall e he hbi
  cases f with
  | zero =>
   have hs0 : s = [] := List.eq_nil_of_length_eq_zero (by omega)
   have hr : Region.ready .any l.toArray listed = [] := by
    cases hr : Region.ready .any l.toArray listed with
    | nil => rfl
    | cons i r =>
     have := (hgo i (by rw [hr]; exact List.mem_cons_self)).1
     rw [hs0] at this
     cases this
   exact ⟨hr, hnil hr⟩
  | succ f =>
   refine ⟨hnil, fun i hi => ?_⟩
   obtain ⟨his, hlt, hg, o, ho, hall⟩ := hgo i hi
   obtain ⟨hgd, hst⟩ := invAll_at hstep ho
   rw [Nat.zero_add] at hst
   unfold wpOp
   have ho2 : l.toArray[i]? = some o := by simpa using ho
   rw [ho2]
   have hw : Region.wanted o (yielded l.toArray a.tmps) = true := by simp [Region.wanted, hgd]
   dsimp only
   rw [if_pos hw]
   refine Or.inl (hst _ a W hI hg hall _ fun a' W' hI' => ?_)
   refine wpAny_inv hb hstep hend f (s.erase i) _ a' W' ?_ (by simpa using hs) (fun j hj hl => ?_) ?_
   ·have := List.length_erase_of_mem his
    omega
   ·by_cases hij : j = i
    ·subst hij
     have := congrFun (upL_set (listed := listed) (i := j) (by omega)) j
     rw [hl] at this
     simp [upL] at this
    ·have := congrFun (upL_set (listed := listed) (i := i) (by omega)) j
     rw [hl] at this
     simp only [upL, if_neg hij] at this
     exact (List.mem_erase_of_ne hij).2 (hin j hj this.symm)
   ·rw [upL_set (by omega)]
    exact hI'
theorem wp_region_inv0 {id : Nat} {a : Act} {w : World} {l : List Oper} (Inv : (Nat → Bool) → Act → World → Prop) (hm : P.follows .mixedOrders = true) (hb : backB l = true) (h0 : Inv (fun _ => false) a w.drew)
  (hstep : invAll P (OnlyN Q) Inv l 0) (hend : ∀ L a W, Inv L a W → (∀ j, j < l.length → L j = true) → Q .normal a W) : (Code.region id l.toArray true).wp P Q a w := by
 refine Code.wp_mono (fun e a w h => ?_) (wp_region_any (Q := OnlyN Q) hm (wpAny_inv hb hstep hend _ (List.range l.length) _ a _ (by simp) (by simp) (fun j hj _ => by simpa using hj) ?_))
 ·cases e <;> first | exact h | exact (h : False).elim
 ·have e : (fun j => (Array.replicate l.toArray.size false).getD j false) = fun _ => false := by
   funext j
   simp only [Array.getD_eq_getD_getElem?, Array.getElem?_replicate]
   split <;> rfl
  rw [e]
  exact h0
theorem wp_region_inv {id : Nat} {a : Act} {w : World} {l : List Oper} (I : Act → (Nat → Bool) → Act → World → Prop) (hm : P.follows .mixedOrders = true) (hb : backB l = true) (h0 : I a (fun _ => false) a w.drew)
  (hstep : invAll P (OnlyN Q) (I a) l 0) (hend : ∀ L a' W, I a L a' W → (∀ j, j < l.length → L j = true) → Q .normal a' W) : (Code.region id l.toArray true).wp P Q a w := wp_region_inv0 (I a) hm hb h0 hstep hend
end
end Go.Proofs.YtepcdhpikpmepaaGreat
namespace Go.Proofs.YtepcdhpikpmepaaGreat
open Go.RowKit
def backBM (l : List Oper) : Bool := (List.range l.length).all fun j => match l[j]? with | none => true | some o => o.after.all fun e => !Region.binds .any e || decide (e.on < j)
section
variable {P : Program} {Q : Exit → Act → World → Prop} {Inv : (Nat → Bool) → Act → World → Prop}
theorem all_listedM {l : List Oper} (hb : backBM l = true) {listed : Array Bool} (hs : listed.size = l.length) (hr : Region.ready .any l.toArray listed = []) : ∀ j, j < l.length → listed.getD j false = true := by
 intro j
 induction j using Nat.strongRecOn with
 | ind j ih =>
  intro hj
  cases hl : listed.getD j false with
  | true => rfl
  | false =>
   exfalso
   have hj' : l[j]? = some l[j] := by simp [hj]
   have : j ∈ Region.ready .any l.toArray listed := by
    rw [mem_ready]
    refine ⟨?_, l[j], by simp [hj], fun e he hbi => ?_⟩
    ·have := hl
     simp only [Array.getD_eq_getD_getElem?] at this ⊢
     cases hx : listed[j]? with
     | none => rw [Array.getElem?_eq_none_iff] at hx; omega
     | some y => rw [hx] at this; simpa using this
    ·simp only [backBM, List.all_eq_true, List.mem_range] at hb
     have := hb j hj
     rw [hj'] at this
     simp only [Array.all_eq_true_iff_forall_mem] at this
     have h1 := this e he
     have h2 : e.on < j := by simpa [hbi] using h1
     exact ih _ h2 (by omega)
   rw [hr] at this
   cases this
theorem wpAny_invM {l : List Oper} (hb : backBM l = true) (hstep : invAll P Q Inv l 0) (hend : ∀ L a W, Inv L a W → (∀ j, j < l.length → L j = true) → Q .normal a W) :
  ∀ (f : Nat) (s : List Nat) (listed : Array Bool) (a : Act) (W : World), s.length ≤ f → listed.size = l.length → (∀ j, j < l.length → listed.getD j false = false → j ∈ s) → Inv (fun j => listed.getD j false) a W → wpAny P .any l.toArray Q f listed a W
 | f, s, listed, a, W, hf, hs, hin, hI => by
  have hnil : Region.ready .any l.toArray listed = [] → Q .normal a W := fun hr => hend _ _ _ hI (all_listedM hb hs hr)
  have hgo : ∀ i ∈ Region.ready .any l.toArray listed, i ∈ s ∧ i < l.length ∧ listed.getD i false = false ∧ ∃ o, l[i]? = some o ∧ (o.after.all fun e => !Region.binds .any e || listed.getD e.on false) = true := fun i hi => by
   obtain ⟨h1, o, ho, hall⟩ := mem_ready.1 hi
   have ho' : l[i]? = some o := by simpa using ho
   have hlt := (List.getElem?_eq_some_iff.1 ho').1
   have hg := getD_both h1
   refine ⟨hin i hlt hg, hlt, hg, o, ho', ?_⟩
   rw [Array.all_eq_true_iff_forall_mem]
   intro e he
   cases hbi : Region.binds .any e with
   | false => rfl
   | true => simpa using hall e he hbi
  cases f with
  | zero =>
   have hs0 : s = [] := List.eq_nil_of_length_eq_zero (by omega)
   have hr : Region.ready .any l.toArray listed = [] := by
    cases hr : Region.ready .any l.toArray listed with
    | nil => rfl
    | cons i r =>
     have := (hgo i (by rw [hr]; exact List.mem_cons_self)).1
     rw [hs0] at this
     cases this
   exact ⟨hr, hnil hr⟩
  | succ f =>
   refine ⟨hnil, fun i hi => ?_⟩
   obtain ⟨his, hlt, hg, o, ho, hall⟩ := hgo i hi
   obtain ⟨hgd, hst⟩ := invAll_at hstep ho
   rw [Nat.zero_add] at hst
   unfold wpOp
   have ho2 : l.toArray[i]? = some o := by simpa using ho
   rw [ho2]
   have hw : Region.wanted o (yielded l.toArray a.tmps) = true := by simp [Region.wanted, hgd]
   dsimp only
   rw [if_pos hw]
   refine Or.inl (hst _ a W hI hg hall _ fun a' W' hI' => ?_)
   refine wpAny_invM hb hstep hend f (s.erase i) _ a' W' ?_ (by simpa using hs) (fun j hj hl => ?_) ?_
   ·have := List.length_erase_of_mem his
    omega
   ·by_cases hij : j = i
    ·subst hij
     have := congrFun (upL_set (listed := listed) (i := j) (by omega)) j
     rw [hl] at this
     simp [upL] at this
    ·have := congrFun (upL_set (listed := listed) (i := i) (by omega)) j
     rw [hl] at this
     simp only [upL, if_neg hij] at this
     exact (List.mem_erase_of_ne hij).2 (hin j hj this.symm)
   ·rw [upL_set (by omega)]
    exact hI'

theorem wp_region_inv0M {id : Nat} {a : Act} {w : World} {l : List Oper} (Inv : (Nat → Bool) → Act → World → Prop) (hm : P.follows .mixedOrders = true) (hb : backBM l = true) (h0 : Inv (fun _ => false) a w.drew)
  (hstep : invAll P (OnlyN Q) Inv l 0) (hend : ∀ L a W, Inv L a W → (∀ j, j < l.length → L j = true) → Q .normal a W) : (Code.region id l.toArray true).wp P Q a w := by
 refine Code.wp_mono (fun e a w h => ?_) (wp_region_any (Q := OnlyN Q) hm (wpAny_invM hb hstep hend _ (List.range l.length) _ a _ (by simp) (by simp) (fun j hj _ => by simpa using hj) ?_))
 ·cases e <;> first | exact h | exact (h : False).elim
 ·have e : (fun j => (Array.replicate l.toArray.size false).getD j false) = fun _ => false := by
   funext j
   simp only [Array.getD_eq_getD_getElem?, Array.getElem?_replicate]
   split <;> rfl
  rw [e]
  exact h0
theorem wp_region_invM {id : Nat} {a : Act} {w : World} {l : List Oper} (I : Act → (Nat → Bool) → Act → World → Prop) (hm : P.follows .mixedOrders = true) (hb : backBM l = true) (h0 : I a (fun _ => false) a w.drew)
  (hstep : invAll P (OnlyN Q) (I a) l 0) (hend : ∀ L a' W, I a L a' W → (∀ j, j < l.length → L j = true) → Q .normal a' W) : (Code.region id l.toArray true).wp P Q a w := wp_region_inv0M (I a) hm hb h0 hstep hend
end
end Go.Proofs.YtepcdhpikpmepaaGreat
