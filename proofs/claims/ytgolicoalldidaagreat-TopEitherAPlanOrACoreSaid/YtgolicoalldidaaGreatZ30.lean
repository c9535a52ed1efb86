import Derived.Test.YtgolicoalldidaaGreatZ25
set_option maxHeartbeats 12800000
namespace Go.Proofs.YtgolicoalldidaaGreat
open Go.RowKit Go.Shelf
structure MarksD (w : World) (B : Nat) (W : World) (ds : List Deferred) : Prop where
 each : ∀ d ∈ ds, ∃ D, d.target = .collected D ∧ w.heap.size ≤ D ∧ D < B ∧ W.heap[D]? = some (.deferred (some []))
 apart : ds.Pairwise fun d e => d.target ≠ e.target
theorem MarksD.nil (w : World) (B : Nat) (W : World) : MarksD w B W [] := ⟨fun d h => (by cases h), List.Pairwise.nil⟩
theorem MarksD.keep {w W W' : World} {B : Nat} {ds : List Deferred} (h : MarksD w B W ds) (k : ∀ D, W.heap[D]? = some (.deferred (some [])) → D < B → W'.heap[D]? = some (.deferred (some []))) : MarksD w B W' ds :=
 ⟨fun d hd => let ⟨_, a, b, c, e⟩ := h.each d hd; ⟨_, a, b, c, k _ e c⟩, h.apart⟩
theorem MarksD.ext {w W W' : World} {B : Nat} {ds : List Deferred} (h : MarksD w B W ds) (e : Ext W W') : MarksD w B W' ds := h.keep fun _ hD _ => (e.heap (Array.getElem?_eq_some_iff.1 hD).1).trans hD
theorem MarksD.up {w W : World} {B B' : Nat} {ds : List Deferred} (h : MarksD w B W ds) (hB : B ≤ B') : MarksD w B' W ds := ⟨fun d hd => let ⟨D, a, b, c, e⟩ := h.each d hd; ⟨D, a, b, by omega, e⟩, h.apart⟩
theorem MarksD.cons {w W : World} {B D : Nat} {ds : List Deferred} (h : MarksD w B W ds) (hw : w.heap.size ≤ D) (hD : B ≤ D) (hK : W.heap[D]? = some (.deferred (some []))) : MarksD w (D + 1) W ({ target := .collected D, args := #[] } :: ds) := by
 refine ⟨fun d hd => ?_, List.Pairwise.cons (fun d hd e => ?_) h.apart⟩
 ·rcases List.mem_cons.1 hd with rfl | hd
  ·exact ⟨D, rfl, hw, by omega, hK⟩
  ·obtain ⟨D', a, b, c, e⟩ := h.each d hd
   exact ⟨D', a, b, by omega, e⟩
 ·obtain ⟨D', a, _, c, _⟩ := h.each d hd
  rw [a] at e
  cases e
  omega
theorem MarksD.turned {w W W' : World} {B : Nat} {X : Nat → Prop} {ds : List Deferred} (h : MarksD w B W ds) (k : Keep X W W') (hX : ∀ g, X g → ∀ o, W.heap[g]? = some o → o.isCells = true) : MarksD w B W' ds :=
 h.keep fun D hD _ => by
  refine (k.block D (Array.getElem?_eq_some_iff.1 hD).1 fun hx => ?_).trans hD
  have := hX D hx _ hD
  cases this
theorem postM_cells {F : Fence} {n : Nat} {P : Program} {fn : Func} {R : Ending → World → Prop} {tmps : Array Value} {w : World} {v : Value} {B : Nat} (hres : ∀ W, (results fn tmps).run P W = .ok v W) : ∀ (ds : List Deferred) (W : World), MarksD w B W ds → Ext w W →
  (∀ W', (∀ p u, W.cell? p = some u → W'.cell? p = some u) → W.heap.size ≤ W'.heap.size → Ext w W' → R (.returned v) W') → bodyPostM F n P fn R .ret { tmps := tmps, defers := ds } W
 | [], W, _, hx, hR => postM_ret (hres W) (hR W (fun _ _ h => h) (Nat.le_refl _) hx)
 | d :: ds, W, h, hx, hR => by
  obtain ⟨D, a, b, c, hK⟩ := h.each d List.mem_cons_self
  have hgr := grownBy_putObj' W D (.deferred none)
  refine ⟨by simp, .inl ⟨D, W.putObj D (.deferred none), a, run_takeDeferred hK, ?_⟩⟩
  refine postM_cells (w := w) (B := B) hres ds (W.putObj D (.deferred none)) ⟨fun e he => ?_, (List.pairwise_cons.1 h.apart).2⟩ (hx.grown hgr (fun k e => by cases e; omega)) (fun W' h1 h2 h3 => hR W' (fun p u hu => h1 p u ?_) (Nat.le_trans hgr.size h2) h3)
  ·obtain ⟨D', a', b', c', hK'⟩ := h.each e (List.mem_cons_of_mem _ he)
   have hne : D' ≠ D := fun e2 => (List.pairwise_cons.1 h.apart).1 e he (by rw [a, a', e2])
   exact ⟨D', a', b', c', (World.putObj_heap_other hne).trans hK'⟩
  ·by_cases hp : p.block = D
   ·have : W.cell? p = none := by unfold World.cell?; rw [hp, hK]
    rw [this] at hu
    cases hu
   ·exact (World.cell?_of_block (hgr.block _ (World.block_lt_of_cell? _ _ hu) (fun e => hp (Option.some.inj e)))).trans hu
theorem Sl.cells {w w' : World} {k : Nat} {v : Value} {n : Nat} {F : Nat → Nat → Value} (h : Sl w k v n F) (h1 : ∀ p u, w.cell? p = some u → w'.cell? p = some u) (h2 : w.heap.size ≤ w'.heap.size) : Sl w' k v n F := by
 obtain ⟨a, c, e, hn, hc, h3⟩ := h
 refine ⟨a, c, e, hn, hc, fun hp => ?_⟩
 obtain ⟨b, off, e1, e2, e3⟩ := h3 hp
 exact ⟨b, off, e1, by omega, fun i hi j hj => h1 _ _ (e3 i hi j hj)⟩
end Go.Proofs.YtgolicoalldidaaGreat
