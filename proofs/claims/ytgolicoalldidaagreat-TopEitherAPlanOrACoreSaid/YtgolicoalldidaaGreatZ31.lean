import Derived.Test.YtgolicoalldidaaGreatZ05
import Derived.Test.YtgolicoalldidaaGreatZ18
import Derived.RangeFuncNested
import Derived.Shelf.Abstract
import Derived.TacticsInMore
import Derived.OrdersIn
set_option maxHeartbeats 12800000
namespace Go.Proofs.YtgolicoalldidaaGreat
open Go.RowKit Go.Shelf
theorem opIn_roundJ {l n : Nat} {P : Program} {o : Oper} {a : Act} {w : World} {K : Act → World → Prop} {Q : Exit → Act → World → Prop} (hnd : ∀ c, o.op ≠ .defer c) (h : o.wp P a w K Q) : o.wpIn (Fence.wide.inRound l) n P a w K Q := by
 refine ⟨fun _ _ => trivial, ?_⟩
 have e : o.semAt (Fence.wide.inRound l).round a.eval = execOp a.eval o := Oper.semAt_some l a.eval o hnd
 rw [e]
 unfold Oper.wp at h
 generalize (execOp a.eval o).run P w = r at *
 cases r with
 | halt x w' =>
  cases x <;> first | exact h | exact h.elim
 | ok nx w' =>
  cases nx with
  | value v => exact h
  | skip => exact h
  | defer d => exact h
  | enter f args => exact ⟨fun x => (by cases x), CallsIn.inRound l (callsIn_wide.2 h)⟩
  | row r args => 
   refine ⟨fun x => (by cases x), fun c cs _ => ?_⟩
   obtain ⟨v, w2, x, y⟩ := h c cs
   exact ⟨v, w2, x, stepsIn_wide.2 y⟩
  | round => exact h.elim
  | _ => exact h.elim
def noDeferBJ (l : List Oper) : Bool := l.all fun o => match o.op with | .defer _ => false | _ => true
theorem wpAnyIn_roundJ {l n : Nat} {P : Program} {ops : List Oper} {md : Region.Mode} {Q : Exit → Act → World → Prop} (hQ : ¬ LetsOut Q) (hnd : noDeferBJ ops = true) :
  ∀ (fuel : Nat) (listed : Array Bool) (a : Act) (w : World), wpAny P md ops.toArray Q fuel listed a w → wpAnyIn (Fence.wide.inRound l) n P md ops.toArray Q fuel listed a w
 | 0, _, _, _, h => h
 | fuel + 1, listed, a, w, h => by
  refine ⟨h.1, fun i hi => ?_⟩
  have h2 := h.2 i hi
  unfold wpOp at h2
  unfold wpOpIn
  cases ho : ops.toArray[i]? with
  | none => rw [ho] at h2; exact wpAnyIn_roundJ hQ hnd fuel _ _ _ h2
  | some o =>
   rw [ho] at h2
   dsimp only at h2 ⊢
   have hdf : ∀ c, o.op ≠ .defer c := fun c e => by
    simp only [noDeferBJ, List.all_eq_true] at hnd
    have hm : o ∈ ops := by
     have : ops[i]? = some o := by simpa using ho
     exact List.mem_of_getElem? this
    have := hnd o hm
    rw [e] at this
    cases this
   split
   ·rename_i hw
    rw [if_pos hw] at h2
    rcases h2 with h2 | h2
    ·exact opIn_roundJ hdf (Oper.wp_mono (fun a w x => wpAnyIn_roundJ hQ hnd fuel _ a w x) h2)
    ·exact absurd h2.2 hQ
   ·rename_i hw
    rw [if_neg hw] at h2
    exact ⟨fun _ _ => trivial, wpAnyIn_roundJ hQ hnd fuel _ _ _ h2⟩
theorem wpIn_region_held {l' nn : Nat} {P : Program} {id : Nat} {Q : Exit → Act → World → Prop} {a : Act} {w : World} {l : List Oper} (qs hs ts : List Nat) (Con : Nat → Value → World → Prop) (hm : P.follows .mixedOrders = true) (hB : heldAllB l qs hs ts = true) (hnd : noDeferBJ l = true)
  (h : wpQuiet P l.toArray (fun _ => True) (fun a' => heldLex P l.toArray .any w Con (heldPost P l ts Q w) hs a' HSt.none) (pickL l qs) a) : (Code.region id l.toArray true).wpIn (Fence.wide.inRound l') nn P Q a w := by
 simp only [heldAllB, Bool.and_eq_true, beq_iff_eq] at hB
 obtain ⟨⟨⟨⟨⟨ht, hp⟩, hin⟩, hint⟩, hb⟩, hlen⟩ := hB
 have hsel : Region.noSelect l.toArray = true := by
  simp only [heldB, Bool.and_eq_true] at hb
  exact hb.1.1.1.1
 refine wpIn_mono (Q := OnlyNormal Q) (wpIn_region_any hm (wpAnyIn_roundJ (by rintro ⟨_, _, hq⟩; exact hq) hnd _ _ _ _ ?_)) OnlyNormal.imp
 have := wpAny_takes (P := P) (w0 := w) (Q := OnlyNormal Q) hsel (fun c d v a w h => h) (hs.length + ts.length) qs (listed0 l) a ht hp hin (wpQuiet_imp (fun a' x => wpAny_held (Q := OnlyNormal Q) hb (pickL_map hint)
  (heldLex_imp (fun a s y W hW hf htk => y W hW hf htk (OnlyNormal Q) (fun _ _ z => z)) hs _ _ x)) _ _ h) { w with drawn := w.drawn + 1 } ((Ext.refl w).drew)
 rw [hlen] at this
 simpa [listed0] using this
end Go.Proofs.YtgolicoalldidaaGreat
