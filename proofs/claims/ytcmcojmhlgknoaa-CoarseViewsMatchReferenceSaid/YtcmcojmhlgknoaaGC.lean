/- A range over the cells that a mark touches: a law for loops over an iterator, and package coarse's iterator. -/
import Derived.Test.YtcmcojmhlgknoaaGB
import Derived.RangeFuncNested
import Derived.RangeFuncBound
import Derived.RangeFuncCalls
import Derived.RangeFuncLeaves
import Derived.Shelf.Abstract
import Derived.Shelf.RegionOpen
import Derived.OwnWalkIn
import Derived.TacticsInMore
import Derived.LoopNIn
import Derived.LoopIn
namespace Go.Proofs.Ytcmcojmhlgknoaa
open Go.RowKit Go.Shelf

/-- an iterator's function yields N values, one after the other; C stands meanwhile -/
def IterOk (F : Nat) (caps : Array Value) (N : Nat) (val : Nat → Value) (C : World → Prop) : Prop :=
  ∀ (n l : Nat) (W : World) (J : Nat → World → Prop) (Jx : World → Prop), 1 ≤ n → C W → (∀ i A B, J i A → Ext A B → J i B) → J 0 W →
    (∀ i W1, i < N → J i W1 → C W1 → YieldAt Fence.wide (n - 1) Try.prog l #[val i] W1 fun e W' => (e = .returned (.bool true) ∧ J (i + 1) W' ∧ C W') ∨ (e = .returned (.bool false) ∧ Jx W')) →
    CallsIn Fence.wide n Try.prog F (#[.func (.yield l) #[] #[]] ++ caps) W fun e W' => (∃ v, e = .returned v) ∧ (J N W' ∨ Jx W')
/-- how a round over an iterator may be left -/
def iterPost (B : Nat) (C I : World → Prop) (Ix : Code → World → Prop) (W : World) : Exit → Act → World → Prop
  | .normal, _, W' => KeepsFrom B W W' ∧ C W' ∧ I W'
  | .ret, _, W' => KeepsFrom B W W' ∧ Ix .ret W'
  | .exit id, _, W' => KeepsFrom B W W' ∧ Ix (.exit id) W'
  | .goto t, _, W' => KeepsFrom B W W' ∧ Ix (.goto t) W'
  | .panic _, _, _ => False
  | .outgrown, _, _ => False
/-- a predicate stands when the loop's own book-keeping turns (two blocks, from B on), and when new blocks come -/
def Stands (B : Nat) (I : World → Prop) : Prop := ∀ A A', I A → (Ext A A' ∨ ∃ row, A.grownBy A' row ∧ (row = some B ∨ row = some (B + 1))) → I A'
set_option maxRecDepth 100000 in
theorem wpIn_range_iter {n : Nat} (h1 : 2 ≤ n) {g : Operand} {p : Tmp} {assign body : Code} {Q : Exit → Act → World → Prop} {a : Act} {w : World} {F N : Nat} {caps : Array Value} {val : Nat → Value} {C : World → Prop}
    (hg : a.eval g = .func (.func F) #[] caps) (e1 : ∀ (args : Array Value) (W : World), (callFunc F args).run Try.prog W = .ok (.enter F args) W)
    (hit : IterOk F caps N val C) (hC : Stands w.heap.size C) (hCw : C w) (I : Nat → World → Prop) (Ix : Code → World → Prop) (hI : ∀ i, Stands w.heap.size (I i)) (hIx : ∀ c, Stands w.heap.size (Ix c)) (h0 : I 0 w) (x : Tmp)
    (hassign : ∀ (l i : Nat) (W : World) (K : Act → World → Prop), K { tmps := (a.tmps.setIfInBounds p (val i)).setIfInBounds x (val i), defers := [] } W →
      assign.wpIn (Fence.wide.inRound l) (n - 1 - 1) Try.prog (Exit.then K (fun _ _ _ => False)) { tmps := a.tmps.setIfInBounds p (val i), defers := [] } W)
    (hbody : ∀ (l i : Nat) (W : World), i < N → I i W → C W → w.heap.size + 2 ≤ W.heap.size →
      body.wpIn (Fence.wide.inRound l) (n - 1 - 1) Try.prog (iterPost w.heap.size C (I (i + 1)) Ix W) { tmps := (a.tmps.setIfInBounds p (val i)).setIfInBounds x (val i), defers := [] } W)
    (hdone : ∀ (D : Nat) (W : World), w.heap.size ≤ D → I N W → W.heap[D]? = some (.deferred (some [])) → Q .normal { a with defers := { target := .collected D, args := #[] } :: a.defers } W)
    (hstop : ∀ (D : Nat) (c : Code) (W : World), w.heap.size ≤ D → Ix c W → W.heap[D]? = some (.deferred (some [])) → c.wpIn Fence.wide n Try.prog Q { a with defers := { target := .collected D, args := #[] } :: a.defers } W) :
    (Code.rangeFunc g #[p] assign body).wpIn Fence.wide n Try.prog Q a w := by
  refine wpIn_rangeFunc fun fn hfn => ?_
  obtain ⟨rc, hrc⟩ : ∃ rc : LoopState → Option Code → Loop, rc = fun st pe => { state := st, pending := pe, fn, tmps := a.tmps, params := #[p], assign, body, defers := w.heap.size } := ⟨_, rfl⟩
  obtain ⟨V, hV⟩ : ∃ V, (w.alloc (.deferred (some []))).alloc (.loop (rc .ready none)) = V := ⟨_, rfl⟩
  have r1 : V.heap[w.heap.size + 1]? = some (.loop (rc .ready none)) := by
    rw [← hV]
    have := World.alloc_heap_new (w.alloc (.deferred (some []))) (.loop (rc .ready none))
    rwa [World.size_alloc] at this
  have r0 : V.heap[w.heap.size]? = some (.deferred (some [])) := by
    rw [← hV]
    exact (Below.heap_alloc _ _ _ (by simp)).trans (World.alloc_heap_new w _)
  have up : ∀ X : World → Prop, Stands w.heap.size X → X w → X V := fun X hX hw => by
    rw [← hV]
    exact hX _ _ hw (Or.inl (((Ext.refl w).alloc _).alloc _))
  refine ⟨w.heap.size + 1, [{ target := .collected w.heap.size, args := #[] }], V, { target := .fn (.func F) caps, args := #[.func (.yield (w.heap.size + 1)) #[] #[]] }, V, F,
    #[.func (.yield (w.heap.size + 1)) #[] #[]] ++ caps, V, ?_, ?_, fun _ _ => trivial, ?_, fun _ => by omega, ?_⟩
  · rw [← hV, hrc]; exact run_enterLoop_outer _ _ _ _ _
  · simp only [resolve, hg]
    simp [go_sem]
  · simp [invoke, go_sem, e1]
  have far : ∀ {A B : World} {k : Nat} {o : Obj}, Ext A B → A.heap[k]? = some o → B.heap[k]? = some o := fun he ho => (he.heap (Array.getElem?_eq_some_iff.1 ho).1).trans ho
  refine (hit (n - 1) (w.heap.size + 1) V
    (fun i W => I i W ∧ W.heap[w.heap.size + 1]? = some (.loop (rc .ready none)) ∧ W.heap[w.heap.size]? = some (.deferred (some [])))
    (fun W => ∃ c, Ix c W ∧ W.heap[w.heap.size + 1]? = some (.loop (rc .done (some c))) ∧ W.heap[w.heap.size]? = some (.deferred (some []))) (by omega) (up C hC hCw) ?_ ⟨up _ (hI 0) h0, r1, r0⟩ ?_).mono ?_
  · rintro i A B ⟨a1, a2, a3⟩ hgr
    exact ⟨hI i A B a1 (Or.inl hgr), far hgr a2, far hgr a3⟩
  · rintro i W hi ⟨a1, a2, a3⟩ hCW
    have hlt := (Array.getElem?_eq_some_iff.1 a2).1
    have hy := run_yield (P := Try.prog) (args := #[val i]) a2 (by rw [hrc]; rfl)
    rw [hrc] at hy
    have ez : (#[p].zip #[val i]).foldl (fun tm (q, v) => tm.setIfInBounds q v) a.tmps = a.tmps.setIfInBounds p (val i) := by simp
    dsimp only at hy
    rw [ez] at hy
    refine ⟨fn, _, assign, body, hy, roundIn_of_wpIn hfn (hassign _ i W _ ⟨_, run_beginRound a2 (by rw [hrc]), ?_⟩)⟩
    have b2 : (W.putObj (w.heap.size + 1) (.loop { rc .ready none with state := .busy })).heap[w.heap.size + 1]? = some (.loop { rc .ready none with state := .busy }) := World.putObj_heap_same hlt
    have b3 : (W.putObj (w.heap.size + 1) (.loop { rc .ready none with state := .busy })).heap[w.heap.size]? = some (.deferred (some [])) := (World.putObj_heap_other (by omega)).trans a3
    have hgb := grownBy_putObj' W (w.heap.size + 1) (.loop { rc .ready none with state := .busy })
    refine wpIn_mono (hbody _ i _ hi (hI i _ _ a1 (Or.inr ⟨_, hgb, by simp⟩)) (hC _ _ hCW (Or.inr ⟨_, hgb, by simp⟩)) (Nat.le_trans (show w.heap.size + 2 ≤ W.heap.size by omega) hgb.size)) ?_
    have fin : ∀ (jump : Option Code) (W3 : World), KeepsFrom w.heap.size (W.putObj (w.heap.size + 1) (.loop { rc .ready none with state := .busy })) W3 →
        (Instr.endRound (w.heap.size + 1) jump).run Try.prog W3 = .ok (.bool jump.isNone) (W3.putObj (w.heap.size + 1) (.loop (rc (if jump.isNone then .ready else .done) jump))) ∧
        (W3.putObj (w.heap.size + 1) (.loop (rc (if jump.isNone then .ready else .done) jump))).heap[w.heap.size + 1]? = some (.loop (rc (if jump.isNone then .ready else .done) jump)) ∧
        (W3.putObj (w.heap.size + 1) (.loop (rc (if jump.isNone then .ready else .done) jump))).heap[w.heap.size]? = some (.deferred (some [])) := fun jump W3 hk => by
      have c2 := hk.same _ _ (by omega) b2 rfl
      have := run_endRound (P := Try.prog) jump c2
      rw [hrc] at this ⊢
      exact ⟨this, World.putObj_heap_same (Array.getElem?_eq_some_iff.1 c2).1, (World.putObj_heap_other (by omega)).trans (hk.same _ _ (Nat.le_refl _) b3 rfl)⟩
    have hgp : ∀ (W3 : World) (o : Obj), W3.grownBy (W3.putObj (w.heap.size + 1) o) (some (w.heap.size + 1)) := fun W3 o => grownBy_putObj' W3 _ o
    rintro e a3' W3 hp
    cases e with
    | normal =>
      obtain ⟨hk, hC3, hI3⟩ := hp
      obtain ⟨f1, f2, f3⟩ := fin none W3 hk
      exact ⟨_, _, f1, .inl ⟨rfl, ⟨hI _ _ _ hI3 (Or.inr ⟨_, hgp _ _, by simp⟩), f2, f3⟩, hC _ _ hC3 (Or.inr ⟨_, hgp _ _, by simp⟩)⟩⟩
    | ret =>
      obtain ⟨hk, hi3⟩ := hp
      obtain ⟨f1, f2, f3⟩ := fin (some .ret) W3 hk
      exact ⟨_, _, f1, .inr ⟨rfl, .ret, hIx _ _ _ hi3 (Or.inr ⟨_, hgp _ _, by simp⟩), f2, f3⟩⟩
    | exit id =>
      obtain ⟨hk, hi3⟩ := hp
      obtain ⟨f1, f2, f3⟩ := fin (some (.exit id)) W3 hk
      exact ⟨_, _, f1, .inr ⟨rfl, .exit id, hIx _ _ _ hi3 (Or.inr ⟨_, hgp _ _, by simp⟩), f2, f3⟩⟩
    | goto tg =>
      obtain ⟨hk, hi3⟩ := hp
      obtain ⟨f1, f2, f3⟩ := fin (some (.goto tg)) W3 hk
      exact ⟨_, _, f1, .inr ⟨rfl, .goto tg, hIx _ _ _ hi3 (Or.inr ⟨_, hgp _ _, by simp⟩), f2, f3⟩⟩
    | panic ch => exact hp.elim
    | outgrown => exact hp.elim
  · rintro e W2 ⟨⟨v, rfl⟩, (⟨a1, a2, a3⟩ | ⟨c, a1, a2, a3⟩)⟩
    · have hend := run_endLoop (P := Try.prog) a2 (by rw [hrc]; simp)
      rw [hrc] at hend
      exact ⟨none, _, hend, hdone _ _ (Nat.le_refl _) (hI _ _ _ a1 (Or.inr ⟨_, grownBy_putObj' W2 _ _, by simp⟩)) ((World.putObj_heap_other (by omega)).trans a3)⟩
    · have hend := run_endLoop (P := Try.prog) a2 (by rw [hrc]; simp)
      rw [hrc] at hend
      exact ⟨some c, _, hend, hstop _ c _ (Nat.le_refl _) (hIx _ _ _ a1 (Or.inr ⟨_, grownBy_putObj' W2 _ _, by simp⟩)) ((World.putObj_heap_other (by omega)).trans a3)⟩
end Go.Proofs.Ytcmcojmhlgknoaa
