/- Drawn regions within a round of a range over a function. -/
import Derived.Test.YtepcdhpikpmepaaGreatPGQ
import Derived.Test.YtepcdhpikpmepaaGreatHEQ
import Derived.RangeFuncNested
import Derived.RangeFuncCalls
import Derived.Shelf.Abstract
import Derived.TacticsInMore
import Derived.CallsIn
import Derived.OrdersIn
namespace Go.Proofs.YtepcdhpikpmepaaGreat
open Go.RowKit Go.Shelf

/-! ### a drawn region in a round -/
theorem opIn_roundJ {l n : Nat} {P : Program} {o : Oper} {a : Act} {w : World} {K : Act → World → Prop} {Q : Exit → Act → World → Prop} (hnd : ∀ c, o.op ≠ .defer c) (h : o.wp P a w K Q) : o.wpIn (Fence.wide.inRound l) n P a w K Q := by
 refine ⟨fun _ _ => trivial, ?_⟩
 have e : o.semAt (Fence.wide.inRound l).round a.eval = execOp a.eval o := Oper.semAt_some l a.eval o hnd
 rw [e]
 unfold Oper.wp at h
 generalize (execOp a.eval o).run P w = r at *
 cases r with
 | halt x w' =>
  cases x <;> first | exact h | exact h.elim
 | ok nx w' =>
  cases nx with
  | value v => exact h
  | skip => exact h
  | defer d => exact h
  | enter f args => exact ⟨fun x => (by cases x), CallsIn.inRound l (callsIn_wide.2 h)⟩
  | row r args => 
   refine ⟨fun x => (by cases x), fun c cs _ => ?_⟩
   obtain ⟨v, w2, x, y⟩ := h c cs
   exact ⟨v, w2, x, stepsIn_wide.2 y⟩
  | round => exact h.elim
  | _ => exact h.elim
def noDeferBJ (l : List Oper) : Bool := l.all fun o => match o.op with | .defer _ => false | _ => true
theorem wpAnyIn_roundJ {l n : Nat} {P : Program} {ops : List Oper} {md : Region.Mode} {Q : Exit → Act → World → Prop} (hQ : ¬ LetsOut Q) (hnd : noDeferBJ ops = true) :
  ∀ (fuel : Nat) (listed : Array Bool) (a : Act) (w : World), wpAny P md ops.toArray Q fuel listed a w → wpAnyIn (Fence.wide.inRound l) n P md ops.toArray Q fuel listed a w
 | 0, _, _, _, h => h
 | fuel + 1, listed, a, w, h => by
  refine ⟨h.1, fun i hi => ?_⟩
  have h2 := h.2 i hi
  unfold wpOp at h2
  unfold wpOpIn
  cases ho : ops.toArray[i]? with
  | none => rw [ho] at h2; exact wpAnyIn_roundJ hQ hnd fuel _ _ _ h2
  | some o =>
   rw [ho] at h2
   dsimp only at h2 ⊢
   have hdf : ∀ c, o.op ≠ .defer c := fun c e => by
    simp only [noDeferBJ, List.all_eq_true] at hnd
    have hm : o ∈ ops := by
     have : ops[i]? = some o := by simpa using ho
     exact List.mem_of_getElem? this
    have := hnd o hm
    rw [e] at this
    cases this
   split
   ·rename_i hw
    rw [if_pos hw] at h2
    rcases h2 with h2 | h2
    ·exact opIn_roundJ hdf (Oper.wp_mono (fun a w x => wpAnyIn_roundJ hQ hnd fuel _ a w x) h2)
    ·exact absurd h2.2 hQ
   ·rename_i hw
    rw [if_neg hw] at h2
    exact ⟨fun _ _ => trivial, wpAnyIn_roundJ hQ hnd fuel _ _ _ h2⟩
theorem wpIn_region_afterJ {l' n id : Nat} {P : Program} {Q : Exit → Act → World → Prop} {a : Act} {w : World} {l : List Oper} (hm : P.follows .mixedOrders = true) (hB : Region.lexB .any l.toArray = true) (hnd : noDeferBJ l = true) (hQ : ¬ LetsOut Q)
  (h : wpQuiet P l.toArray (fun W => ∃ x : After w, W = x.world) (fun a' => ∀ W, (∃ x : After w, W = x.world) → Q .normal a' W) l a) : (Code.region id l.toArray true).wpIn (Fence.wide.inRound l') n P Q a w := by
 simp only [Region.lexB, Bool.and_eq_true] at hB
 refine wpIn_region_any hm (wpAnyIn_roundJ hQ hnd _ _ _ _ (wpAny_of_quiet (C := fun W => ∃ x : After w, W = x.world) (Q := fun a' => ∀ w', (∃ x : After w, w' = x.world) → Q .normal a' w') (fun _ w' hw' h => h w' hw') _ _ _ _ ⟨⟨w.drew, (Ext.refl w).drew⟩, rfl⟩ ?_))
 have := wpAnyQ_lex (C := fun W => ∃ x : After w, W = x.world) (md := .any) hB.1 l 0 (Array.replicate l.toArray.size false) a (by simp) (by simpa using hB.2) h
 simpa using this

theorem wpIn_region_tail {l' nn id : Nat} {P : Program} {Q : Exit → Act → World → Prop} {a : Act} {w : World} {l : List Oper} (n : Nat) (hm : P.follows .mixedOrders = true) (hB : Region.lexTailB .any l.toArray n = true) (hnd : noDeferBJ l = true) (hQ : ¬ LetsOut Q)
  (h : wpQuiet P l.toArray (fun W => ∃ x : After w, W = x.world) (fun a' => ∀ W, (∃ x : After w, W = x.world) → wpList P l.toArray Q (l.drop n) a' W) (l.take n) a) : (Code.region id l.toArray true).wpIn (Fence.wide.inRound l') nn P Q a w := by
 simp only [Region.lexTailB, Bool.and_eq_true, decide_eq_true_eq] at hB
 obtain ⟨⟨⟨⟨hsel, hn⟩, hs⟩, hc⟩, hlex⟩ := hB
 have hn' : n < l.length := by simpa using hn
 have htl : (l.take n).length = n := by simp; omega
 have hdl : (l.drop n).length = l.toArray.size - n := by simp
 have inv0 : HeadInv .any l.toArray n (Array.replicate l.toArray.size false) :=
  ⟨by simp, fun j oj _ hl => (by rw [getD_replicate_false] at hl; cases hl), fun t _ ht => getD_in (by simpa using ht) (getD_replicate_false _ _)⟩
 have H := head_lex (md := .any) (g := l.toArray.size - n) hsel hs hc hn (l.take n) 0 _ a (fun j hj => by
  have hj' : j < n := by rw [htl] at hj; exact hj
  simp [hj']) (by simpa using htl) inv0 (by rw [htl]; exact hlex) h
 refine wpIn_region_any hm (wpAnyIn_roundJ hQ hnd _ _ _ _ ?_)
 have := any_of_head (Q' := Q) (g := l.toArray.size - n) (fun listed a' hL W hW => by
  have := wpAny_of_seq (md := .any) (Q' := Q) (l.drop n) n listed a' W (fun j => by simp [List.getElem?_drop]) (by rw [hdl]; exact hL.1) (hL.2 W hW)
  rwa [hdl] at this) _ _ _ H { w with drawn := w.drawn + 1 } ⟨⟨w.drew, (Ext.refl w).drew⟩, rfl⟩
 rw [htl, show n + (l.toArray.size - n) = l.toArray.size by omega] at this
 exact this

theorem wpIn_region_held {l' nn : Nat} {P : Program} {id : Nat} {Q : Exit → Act → World → Prop} {a : Act} {w : World} {l : List Oper} (qs hs ts : List Nat) (Con : Nat → Value → World → Prop) (hm : P.follows .mixedOrders = true) (hB : heldAllB l qs hs ts = true) (hnd : noDeferBJ l = true)
  (h : wpQuiet P l.toArray (fun _ => True) (fun a' => heldLex P l.toArray .any w Con (heldPost P l ts Q w) hs a' HSt.none) (pickL l qs) a) : (Code.region id l.toArray true).wpIn (Fence.wide.inRound l') nn P Q a w := by
 simp only [heldAllB, Bool.and_eq_true, beq_iff_eq] at hB
 obtain ⟨⟨⟨⟨⟨ht, hp⟩, hin⟩, hint⟩, hb⟩, hlen⟩ := hB
 have hsel : Region.noSelect l.toArray = true := by
  simp only [heldB, Bool.and_eq_true] at hb
  exact hb.1.1.1.1
 refine wpIn_mono (Q := OnlyNormal Q) (wpIn_region_any hm (wpAnyIn_roundJ (by rintro ⟨_, _, hq⟩; exact hq) hnd _ _ _ _ ?_)) OnlyNormal.imp
 have := wpAny_takes (P := P) (w0 := w) (Q := OnlyNormal Q) hsel (fun c d v a w h => h) (hs.length + ts.length) qs (listed0 l) a ht hp hin (wpQuiet_imp (fun a' x => wpAny_held (Q := OnlyNormal Q) hb (pickL_map hint)
  (heldLex_imp (fun a s y W hW hf htk => y W hW hf htk (OnlyNormal Q) (fun _ _ z => z)) hs _ _ x)) _ _ h) { w with drawn := w.drawn + 1 } ((Ext.refl w).drew)
 rw [hlen] at this
 simpa [listed0] using this
end Go.Proofs.YtepcdhpikpmepaaGreat
