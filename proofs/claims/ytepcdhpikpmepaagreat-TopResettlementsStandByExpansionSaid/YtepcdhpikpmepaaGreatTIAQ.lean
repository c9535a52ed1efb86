import Derived.Test.YtepcdhpikpmepaaGreatCHQ
namespace Go.Proofs.YtepcdhpikpmepaaGreat
open Go.RowKit Go.Shelf

def IterOk (F : Nat) (caps : Array Value) (N : Nat) (val : Nat → Value) (C : World → Prop) : Prop :=
 ∀ (n l : Nat) (W : World) (J : Nat → World → Prop) (Jx : World → Prop), 1 ≤ n → C W → (∀ i A B, J i A → Ext A B → J i B) → J 0 W →
  (∀ i W1, i < N → J i W1 → C W1 → YieldAt Fence.wide (n - 1) Tryz.prog l #[val i] W1 fun e W' => (e = .returned (.bool true) ∧ J (i + 1) W' ∧ C W') ∨ (e = .returned (.bool false) ∧ Jx W')) →
  CallsIn Fence.wide n Tryz.prog F (#[.func (.yield l) #[] #[]] ++ caps) W fun e W' => (∃ v, e = .returned v) ∧ (J N W' ∨ Jx W')
def iterPost (B : Nat) (C I : World → Prop) (Ix : Code → World → Prop) (W : World) : Exit → Act → World → Prop
 | .normal, _, W' => KeepsFrom B W W' ∧ C W' ∧ I W'
 | .ret, _, W' => KeepsFrom B W W' ∧ Ix .ret W'
 | .exit id, _, W' => KeepsFrom B W W' ∧ Ix (.exit id) W'
 | .goto t, _, W' => KeepsFrom B W W' ∧ Ix (.goto t) W'
 | .panic _, _, _ => False
 | .outgrown, _, _ => False
def StandsI (B : Nat) (I : World → Prop) : Prop := ∀ A A', I A → (Ext A A' ∨ ∃ row, A.grownBy A' row ∧ (row = some B ∨ row = some (B + 1))) → I A'
set_option maxRecDepth 100000 in
theorem wpIn_range_iter {n : Nat} (h1 : 2 ≤ n) {g : Operand} {p : Tmp} {assign body : Code} {Q : Exit → Act → World → Prop} {a : Act} {w : World} {F N : Nat} {caps : Array Value} {val : Nat → Value} {C : World → Prop}
  (hg : a.eval g = .func (.func F) #[] caps) (e1 : ∀ (args : Array Value) (W : World), (callFunc F args).run Tryz.prog W = .ok (.enter F args) W)
  (hit : IterOk F caps N val C) (hC : StandsI w.heap.size C) (hCw : C w) (I : Nat → World → Prop) (Ix : Code → World → Prop) (hI : ∀ i, StandsI w.heap.size (I i)) (hIx : ∀ c, StandsI w.heap.size (Ix c)) (h0 : I 0 w) (x : Tmp)
  (hassign : ∀ (l i : Nat) (W : World) (K : Act → World → Prop), K { tmps := (a.tmps.setIfInBounds p (val i)).setIfInBounds x (val i), defers := [] } W →
   assign.wpIn (Fence.wide.inRound l) (n - 1 - 1) Tryz.prog (Exit.then K (fun _ _ _ => False)) { tmps := a.tmps.setIfInBounds p (val i), defers := [] } W)
  (hbody : ∀ (l i : Nat) (W : World), i < N → I i W → C W → w.heap.size + 2 ≤ W.heap.size →
   body.wpIn (Fence.wide.inRound l) (n - 1 - 1) Tryz.prog (iterPost w.heap.size C (I (i + 1)) Ix W) { tmps := (a.tmps.setIfInBounds p (val i)).setIfInBounds x (val i), defers := [] } W)
  (hdone : ∀ (D : Nat) (W : World), w.heap.size ≤ D → I N W → W.heap[D]? = some (.deferred (some [])) → Q .normal { a with defers := { target := .collected D, args := #[] } :: a.defers } W)
  (hstop : ∀ (D : Nat) (c : Code) (W : World), w.heap.size ≤ D → Ix c W → W.heap[D]? = some (.deferred (some [])) → c.wpIn Fence.wide n Tryz.prog Q { a with defers := { target := .collected D, args := #[] } :: a.defers } W) :
  (Code.rangeFunc g #[p] assign body).wpIn Fence.wide n Tryz.prog Q a w := by
 refine wpIn_rangeFunc fun fn hfn => ?_
 obtain ⟨rc, hrc⟩ : ∃ rc : LoopState → Option Code → Loop, rc = fun st pe => { state := st, pending := pe, fn, tmps := a.tmps, params := #[p], assign, body, defers := w.heap.size } := ⟨_, rfl⟩
 obtain ⟨V, hV⟩ : ∃ V, (w.alloc (.deferred (some []))).alloc (.loop (rc .ready none)) = V := ⟨_, rfl⟩
 have r1 : V.heap[w.heap.size + 1]? = some (.loop (rc .ready none)) := by
  rw [← hV]
  have := World.alloc_heap_new (w.alloc (.deferred (some []))) (.loop (rc .ready none))
  rwa [World.size_alloc] at this
 have r0 : V.heap[w.heap.size]? = some (.deferred (some [])) := by
  rw [← hV]
  exact (Below.heap_alloc _ _ _ (by simp)).trans (World.alloc_heap_new w _)
 have up : ∀ X : World → Prop, StandsI w.heap.size X → X w → X V := fun X hX hw => by
  rw [← hV]
  exact hX _ _ hw (Or.inl (((Ext.refl w).alloc _).alloc _))
 refine ⟨w.heap.size + 1, [{ target := .collected w.heap.size, args := #[] }], V, { target := .fn (.func F) caps, args := #[.func (.yield (w.heap.size + 1)) #[] #[]] }, V, F,
  #[.func (.yield (w.heap.size + 1)) #[] #[]] ++ caps, V, ?_, ?_, fun _ _ => trivial, ?_, fun _ => by omega, ?_⟩
 ·rw [← hV, hrc]; exact run_enterLoop_outer _ _ _ _ _
 ·simp only [resolve, hg]
  simp [go_sem]
 ·simp [invoke, go_sem, e1]
 have far : ∀ {A B : World} {k : Nat} {o : Obj}, Ext A B → A.heap[k]? = some o → B.heap[k]? = some o := fun he ho => (he.heap (Array.getElem?_eq_some_iff.1 ho).1).trans ho
 refine (hit (n - 1) (w.heap.size + 1) V
  (fun i W => I i W ∧ W.heap[w.heap.size + 1]? = some (.loop (rc .ready none)) ∧ W.heap[w.heap.size]? = some (.deferred (some [])))
  (fun W => ∃ c, Ix c W ∧ W.heap[w.heap.size + 1]? = some (.loop (rc .done (some c))) ∧ W.heap[w.heap.size]? = some (.deferred (some []))) (by omega) (up C hC hCw) ?_ ⟨up _ (hI 0) h0, r1, r0⟩ ?_).mono ?_
 ·rintro i A B ⟨a1, a2, a3⟩ hgr
  exact ⟨hI i A B a1 (Or.inl hgr), far hgr a2, far hgr a3⟩
 ·rintro i W hi ⟨a1, a2, a3⟩ hCW
  have hlt := (Array.getElem?_eq_some_iff.1 a2).1
  have hy := run_yield (P := Tryz.prog) (args := #[val i]) a2 (by rw [hrc]; rfl)
  rw [hrc] at hy
  have ez : (#[p].zip #[val i]).foldl (fun tm (q, v) => tm.setIfInBounds q v) a.tmps = a.tmps.setIfInBounds p (val i) := by simp
  dsimp only at hy
  rw [ez] at hy
  refine ⟨fn, _, assign, body, hy, roundIn_of_wpIn hfn (hassign _ i W _ ⟨_, run_beginRound a2 (by rw [hrc]), ?_⟩)⟩
  have b2 : (W.putObj (w.heap.size + 1) (.loop { rc .ready none with state := .busy })).heap[w.heap.size + 1]? = some (.loop { rc .ready none with state := .busy }) := World.putObj_heap_same hlt
  have b3 : (W.putObj (w.heap.size + 1) (.loop { rc .ready none with state := .busy })).heap[w.heap.size]? = some (.deferred (some [])) := (World.putObj_heap_other (by omega)).trans a3
  have hgb := grownBy_putObj' W (w.heap.size + 1) (.loop { rc .ready none with state := .busy })
  refine wpIn_mono (hbody _ i _ hi (hI i _ _ a1 (Or.inr ⟨_, hgb, by simp⟩)) (hC _ _ hCW (Or.inr ⟨_, hgb, by simp⟩)) (Nat.le_trans (show w.heap.size + 2 ≤ W.heap.size by omega) hgb.size)) ?_
  have fin : ∀ (jump : Option Code) (W3 : World), KeepsFrom w.heap.size (W.putObj (w.heap.size + 1) (.loop { rc .ready none with state := .busy })) W3 →
    (Instr.endRound (w.heap.size + 1) jump).run Tryz.prog W3 = .ok (.bool jump.isNone) (W3.putObj (w.heap.size + 1) (.loop (rc (if jump.isNone then .ready else .done) jump))) ∧
    (W3.putObj (w.heap.size + 1) (.loop (rc (if jump.isNone then .ready else .done) jump))).heap[w.heap.size + 1]? = some (.loop (rc (if jump.isNone then .ready else .done) jump)) ∧
    (W3.putObj (w.heap.size + 1) (.loop (rc (if jump.isNone then .ready else .done) jump))).heap[w.heap.size]? = some (.deferred (some [])) := fun jump W3 hk => by
   have c2 := hk.same _ _ (by omega) b2 rfl
   have := run_endRound (P := Tryz.prog) jump c2
   rw [hrc] at this ⊢
   exact ⟨this, World.putObj_heap_same (Array.getElem?_eq_some_iff.1 c2).1, (World.putObj_heap_other (by omega)).trans (hk.same _ _ (Nat.le_refl _) b3 rfl)⟩
  have hgp : ∀ (W3 : World) (o : Obj), W3.grownBy (W3.putObj (w.heap.size + 1) o) (some (w.heap.size + 1)) := fun W3 o => grownBy_putObj' W3 _ o
  rintro e a3' W3 hp
  cases e with
  | normal =>
   obtain ⟨hk, hC3, hI3⟩ := hp
   obtain ⟨f1, f2, f3⟩ := fin none W3 hk
   exact ⟨_, _, f1, .inl ⟨rfl, ⟨hI _ _ _ hI3 (Or.inr ⟨_, hgp _ _, by simp⟩), f2, f3⟩, hC _ _ hC3 (Or.inr ⟨_, hgp _ _, by simp⟩)⟩⟩
  | ret =>
   obtain ⟨hk, hi3⟩ := hp
   obtain ⟨f1, f2, f3⟩ := fin (some .ret) W3 hk
   exact ⟨_, _, f1, .inr ⟨rfl, .ret, hIx _ _ _ hi3 (Or.inr ⟨_, hgp _ _, by simp⟩), f2, f3⟩⟩
  | exit id =>
   obtain ⟨hk, hi3⟩ := hp
   obtain ⟨f1, f2, f3⟩ := fin (some (.exit id)) W3 hk
   exact ⟨_, _, f1, .inr ⟨rfl, .exit id, hIx _ _ _ hi3 (Or.inr ⟨_, hgp _ _, by simp⟩), f2, f3⟩⟩
  | goto tg =>
   obtain ⟨hk, hi3⟩ := hp
   obtain ⟨f1, f2, f3⟩ := fin (some (.goto tg)) W3 hk
   exact ⟨_, _, f1, .inr ⟨rfl, .goto tg, hIx _ _ _ hi3 (Or.inr ⟨_, hgp _ _, by simp⟩), f2, f3⟩⟩
  | panic ch => exact hp.elim
  | outgrown => exact hp.elim
 ·rintro e W2 ⟨⟨v, rfl⟩, (⟨a1, a2, a3⟩ | ⟨c, a1, a2, a3⟩)⟩
  ·have hend := run_endLoop (P := Tryz.prog) a2 (by rw [hrc]; simp)
   rw [hrc] at hend
   exact ⟨none, _, hend, hdone _ _ (Nat.le_refl _) (hI _ _ _ a1 (Or.inr ⟨_, grownBy_putObj' W2 _ _, by simp⟩)) ((World.putObj_heap_other (by omega)).trans a3)⟩
  ·have hend := run_endLoop (P := Tryz.prog) a2 (by rw [hrc]; simp)
   rw [hrc] at hend
   exact ⟨some c, _, hend, hstop _ c _ (Nat.le_refl _) (hIx _ _ _ a1 (Or.inr ⟨_, grownBy_putObj' W2 _ _, by simp⟩)) ((World.putObj_heap_other (by omega)).trans a3)⟩
theorem cell_standsI {B : Nat} {p : Addr} {v : Value} (h : p.block < B) : StandsI B fun W => W.cell? p = some v := fun A A' hA hx => by
 rcases hx with e | ⟨row, hg, hr⟩
 ·exact e.cell hA
 ·refine (World.cell?_of_block (hg.block _ (World.block_lt_of_cell? _ _ hA) (fun e => ?_))).trans hA
  rcases hr with r | r <;> rw [r] at e <;> have := Option.some.inj e <;> omega
theorem blk_standsI {B g : Nat} {T : TypeId} {cs : Array Value} (h : g < B) : StandsI B fun W => Blk W g T cs := fun A A' hA hx => by
 rcases hx with e | ⟨row, hg, hr⟩
 ·exact (Keep.of_ext (X := fun _ => False) e).blk hA id
 ·refine hA.grown hg (fun e => ?_)
  rcases hr with r | r <;> rw [r] at e <;> have := Option.some.inj e <;> omega
theorem ext_standsI {B : Nat} {w : World} (h : w.heap.size ≤ B) : StandsI B fun W => Ext w W := fun A A' hA hx => by
 rcases hx with e | ⟨row, hg, hr⟩
 ·exact hA.trans e
 ·exact hA.grown hg (fun k e => by rcases hr with r | r <;> rw [r] at e <;> have := Option.some.inj e <;> omega)
theorem StandsI.and {B : Nat} {I K : World → Prop} (h : StandsI B I) (k : StandsI B K) : StandsI B fun W => I W ∧ K W := fun A A' x g => ⟨h A A' x.1 g, k A A' x.2 g⟩
theorem keepsOthers_extI {W W' : World} (e : Ext W W') : KeepsOthers W W' := ⟨e.size, fun _ _ hk _ => (e.heap (Array.getElem?_eq_some_iff.1 hk).1).trans hk⟩
end Go.Proofs.YtepcdhpikpmepaaGreat
namespace Go.Proofs.YtepcdhpikpmepaaGreat
open Go.RowKit Go.Shelf

structure MarksD (w : World) (B : Nat) (W : World) (ds : List Deferred) : Prop where
 each : ∀ d ∈ ds, ∃ D, d.target = .collected D ∧ w.heap.size ≤ D ∧ D < B ∧ W.heap[D]? = some (.deferred (some []))
 apart : ds.Pairwise fun d e => d.target ≠ e.target
theorem MarksD.nil (w : World) (B : Nat) (W : World) : MarksD w B W [] := ⟨fun d h => (by cases h), List.Pairwise.nil⟩
theorem MarksD.keep {w W W' : World} {B : Nat} {ds : List Deferred} (h : MarksD w B W ds) (k : ∀ D, W.heap[D]? = some (.deferred (some [])) → D < B → W'.heap[D]? = some (.deferred (some []))) : MarksD w B W' ds :=
 ⟨fun d hd => let ⟨_, a, b, c, e⟩ := h.each d hd; ⟨_, a, b, c, k _ e c⟩, h.apart⟩
theorem MarksD.ext {w W W' : World} {B : Nat} {ds : List Deferred} (h : MarksD w B W ds) (e : Ext W W') : MarksD w B W' ds := h.keep fun _ hD _ => (e.heap (Array.getElem?_eq_some_iff.1 hD).1).trans hD
theorem MarksD.up {w W : World} {B B' : Nat} {ds : List Deferred} (h : MarksD w B W ds) (hB : B ≤ B') : MarksD w B' W ds := ⟨fun d hd => let ⟨D, a, b, c, e⟩ := h.each d hd; ⟨D, a, b, by omega, e⟩, h.apart⟩
theorem MarksD.cons {w W : World} {B D : Nat} {ds : List Deferred} (h : MarksD w B W ds) (hw : w.heap.size ≤ D) (hD : B ≤ D) (hK : W.heap[D]? = some (.deferred (some []))) : MarksD w (D + 1) W ({ target := .collected D, args := #[] } :: ds) := by
 refine ⟨fun d hd => ?_, List.Pairwise.cons (fun d hd e => ?_) h.apart⟩
 ·rcases List.mem_cons.1 hd with rfl | hd
  ·exact ⟨D, rfl, hw, by omega, hK⟩
  ·obtain ⟨D', a, b, c, e⟩ := h.each d hd
   exact ⟨D', a, b, by omega, e⟩
 ·obtain ⟨D', a, _, c, _⟩ := h.each d hd
  rw [a] at e
  cases e
  omega
theorem MarksD.turned {w W W' : World} {B : Nat} {X : Nat → Prop} {ds : List Deferred} (h : MarksD w B W ds) (k : Keep X W W') (hX : ∀ g, X g → ∀ o, W.heap[g]? = some o → o.isCells = true) : MarksD w B W' ds :=
 h.keep fun D hD _ => by
  refine (k.block D (Array.getElem?_eq_some_iff.1 hD).1 fun hx => ?_).trans hD
  have := hX D hx _ hD
  cases this
theorem MarksD.stands {B : Nat} {w : World} {B0 : Nat} {ds : List Deferred} (hB : B0 ≤ B) : StandsI B fun W => MarksD w B0 W ds := fun A A' hA hx => by
 rcases hx with e | ⟨row, hg, hr⟩
 ·exact hA.ext e
 ·refine hA.keep fun D hD hlt => (hg.block D (Array.getElem?_eq_some_iff.1 hD).1 (fun e => ?_)).trans hD
  rcases hr with r | r <;> rw [r] at e <;> have := Option.some.inj e <;> omega
theorem postM_cells {F : Fence} {n : Nat} {P : Program} {fn : Func} {R : Ending → World → Prop} {tmps : Array Value} {w : World} {v : Value} {B : Nat} (hres : ∀ W, (results fn tmps).run P W = .ok v W) : ∀ (ds : List Deferred) (W : World), MarksD w B W ds → Ext w W →
  (∀ W', (∀ p u, W.cell? p = some u → W'.cell? p = some u) → W.heap.size ≤ W'.heap.size → Ext w W' → R (.returned v) W') → bodyPostM F n P fn R .ret { tmps := tmps, defers := ds } W
 | [], W, _, hx, hR => postM_ret (hres W) (hR W (fun _ _ h => h) (Nat.le_refl _) hx)
 | d :: ds, W, h, hx, hR => by
  obtain ⟨D, a, b, c, hK⟩ := h.each d List.mem_cons_self
  have hgr := grownBy_putObj' W D (.deferred none)
  refine ⟨by simp, .inl ⟨D, W.putObj D (.deferred none), a, run_takeDeferred hK, ?_⟩⟩
  refine postM_cells (w := w) (B := B) hres ds (W.putObj D (.deferred none)) ⟨fun e he => ?_, (List.pairwise_cons.1 h.apart).2⟩ (hx.grown hgr (fun k e => by cases e; omega)) (fun W' h1 h2 h3 => hR W' (fun p u hu => h1 p u ?_) (Nat.le_trans hgr.size h2) h3)
  ·obtain ⟨D', a', b', c', hK'⟩ := h.each e (List.mem_cons_of_mem _ he)
   have hne : D' ≠ D := fun e2 => (List.pairwise_cons.1 h.apart).1 e he (by rw [a, a', e2])
   exact ⟨D', a', b', c', (World.putObj_heap_other hne).trans hK'⟩
  ·by_cases hp : p.block = D
   ·have : W.cell? p = none := by unfold World.cell?; rw [hp, hK]
    rw [this] at hu
    cases hu
   ·exact (World.cell?_of_block (hgr.block _ (World.block_lt_of_cell? _ _ hu) (fun e => hp (Option.some.inj e)))).trans hu
theorem Sl.cells {w w' : World} {k : Nat} {v : Value} {n : Nat} {F : Nat → Nat → Value} (h : Sl w k v n F) (h1 : ∀ p u, w.cell? p = some u → w'.cell? p = some u) (h2 : w.heap.size ≤ w'.heap.size) : Sl w' k v n F := by
 obtain ⟨a, c, e, hn, hc, h3⟩ := h
 refine ⟨a, c, e, hn, hc, fun hp => ?_⟩
 obtain ⟨b, off, e1, e2, e3⟩ := h3 hp
 exact ⟨b, off, e1, by omega, fun i hi j hj => h1 _ _ (e3 i hi j hj)⟩
end Go.Proofs.YtepcdhpikpmepaaGreat
