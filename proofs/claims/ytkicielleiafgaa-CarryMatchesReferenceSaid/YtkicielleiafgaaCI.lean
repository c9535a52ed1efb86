/- The law for a loop over the states on the way. -/
import Derived.Test.YtkicielleiafgaaCH
namespace Go.Proofs.Ytkicielleiafgaa
open Go.RowKit Go.Shelf

/-- how a round over the states may be left -/
def walkPost (B : Nat) (u : World) (bs : Addr) (sv : Value) (S : Nat) (st : List Int) (I : World → Prop) (Ix : Code → World → Prop) (W : World) : Exit → Act → World → Prop
  | .normal, _, W' => KeepsFrom B W W' ∧ Ext u W' ∧ W'.cell? bs = some sv ∧ St W' S st ∧ I W'
  | .ret, _, W' => KeepsFrom B W W' ∧ Ix .ret W'
  | .exit id, _, W' => KeepsFrom B W W' ∧ Ix (.exit id) W'
  | .goto t, _, W' => KeepsFrom B W W' ∧ Ix (.goto t) W'
  | .panic _, _, _ => False
  | .outgrown, _, _ => False

/-- a predicate stands when the blocks of the loop's own book-keeping (two, from B on) or the state's (B + 2) turn, and when new blocks come -/
def Stands (B : Nat) (I : World → Prop) : Prop := ∀ A A' row, I A → A.grownBy A' row → (row = none ∨ row = some B ∨ row = some (B + 1) ∨ row = some (B + 2)) → I A'

set_option maxRecDepth 100000 in
theorem wpIn_range_walk {n : Nat} (h1 : 2 ≤ n) {g : Operand} {p : Tmp} {assign body : Code} {Q : Exit → Act → World → Prop} {a : Act} {u w : World} {bt bs : Nat} {ta sa : Option Addr} {tc sc : Nat} {t : List WishD} {steps : List StepD}
    (hg : a.eval g = .func (.func 91) #[] #[.pointer (some ⟨bt, 0, none⟩), .pointer (some ⟨bs, 0, none⟩)])
    (hbt : w.cell? ⟨bt, 0, none⟩ = some (.slice ta t.length tc)) (hbs : w.cell? ⟨bs, 0, none⟩ = some (.slice sa steps.length sc)) (hu : Ext u w) (hS : Spans u (.slice sa steps.length sc) steps)
    (hok : steps.all (stepOkB t) = true) (h512 : t.length ≤ 512) (I : Nat → World → Prop) (Ix : Code → World → Prop) (hI : ∀ i, Stands w.heap.size (I i)) (hIx : ∀ c, Stands w.heap.size (Ix c)) (h0 : I 0 w) (x : Tmp)
    (hassign : ∀ (l : Nat) (W : World) (K : Act → World → Prop), K { tmps := (a.tmps.setIfInBounds p (.slice (some ⟨w.heap.size + 2, 0, none⟩) t.length t.length)).setIfInBounds x (.slice (some ⟨w.heap.size + 2, 0, none⟩) t.length t.length), defers := [] } W →
      assign.wpIn (Fence.wide.inRound l) (n - 1 - 1) Try.prog (Exit.then K (fun _ _ _ => False)) { tmps := a.tmps.setIfInBounds p (.slice (some ⟨w.heap.size + 2, 0, none⟩) t.length t.length), defers := [] } W)
    (hbody : ∀ (l i : Nat) (W : World), i ≤ steps.length → I i W → Ext u W → W.cell? ⟨bs, 0, none⟩ = some (.slice sa steps.length sc) → St W (w.heap.size + 2) (stAt t steps i) → w.heap.size + 2 < W.heap.size →
      body.wpIn (Fence.wide.inRound l) (n - 1 - 1) Try.prog (walkPost w.heap.size u ⟨bs, 0, none⟩ (.slice sa steps.length sc) (w.heap.size + 2) (stAt t steps i) (I (i + 1)) Ix W) { tmps := (a.tmps.setIfInBounds p (.slice (some ⟨w.heap.size + 2, 0, none⟩) t.length t.length)).setIfInBounds x (.slice (some ⟨w.heap.size + 2, 0, none⟩) t.length t.length), defers := [] } W)
    (hdone : ∀ (D : Nat) (W : World), w.heap.size ≤ D → I (steps.length + 1) W → W.heap[D]? = some (.deferred (some [])) → Q .normal { a with defers := { target := .collected D, args := #[] } :: a.defers } W)
    (hstop : ∀ (D : Nat) (c : Code) (W : World), w.heap.size ≤ D → Ix c W → W.heap[D]? = some (.deferred (some [])) → c.wpIn Fence.wide n Try.prog Q { a with defers := { target := .collected D, args := #[] } :: a.defers } W) :
    (Code.rangeFunc g #[p] assign body).wpIn Fence.wide n Try.prog Q a w := by
  have hus := hu.size
  have hbl : bs < w.heap.size := World.block_lt_of_cell? _ _ hbs
  have hbne : (some bs : Option Nat) ≠ some (w.heap.size + 1) := fun e => by have := Option.some.inj e; omega
  have e1 : ∀ (args : Array Value) (W : World), (callFunc 91 args).run Try.prog W = .ok (.enter 91 args) W := fun args W => by kernel_rfl
  refine wpIn_rangeFunc fun fn hfn => ?_
  -- the loop's record, by its state and its pending jump
  obtain ⟨rc, hrc⟩ : ∃ rc : LoopState → Option Code → Loop, rc = fun st pe => { state := st, pending := pe, fn, tmps := a.tmps, params := #[p], assign, body, defers := w.heap.size } := ⟨_, rfl⟩
  obtain ⟨V, hV⟩ : ∃ V, (w.alloc (.deferred (some []))).alloc (.loop (rc .ready none)) = V := ⟨_, rfl⟩
  have hVs : V.heap.size = w.heap.size + 2 := by rw [← hV]; simp
  have r1 : V.heap[w.heap.size + 1]? = some (.loop (rc .ready none)) := by
    rw [← hV]
    have := World.alloc_heap_new (w.alloc (.deferred (some []))) (.loop (rc .ready none))
    rwa [World.size_alloc] at this
  have r0 : V.heap[w.heap.size]? = some (.deferred (some [])) := by
    rw [← hV]
    exact (Below.heap_alloc _ _ _ (by simp)).trans (World.alloc_heap_new w _)
  have hxV : Ext w V := by rw [← hV]; exact ((Ext.refl w).alloc _).alloc _
  have hIV : I 0 V := by
    rw [← hV]
    exact hI 0 _ _ none (hI 0 _ _ none h0 (World.grownBy_alloc w _ none) (Or.inl rfl)) (World.grownBy_alloc _ _ none) (Or.inl rfl)
  refine ⟨w.heap.size + 1, [{ target := .collected w.heap.size, args := #[] }], V, { target := .fn (.func 91) #[.pointer (some ⟨bt, 0, none⟩), .pointer (some ⟨bs, 0, none⟩)], args := #[.func (.yield (w.heap.size + 1)) #[] #[]] }, V, 91,
    #[.func (.yield (w.heap.size + 1)) #[] #[], .pointer (some ⟨bt, 0, none⟩), .pointer (some ⟨bs, 0, none⟩)], V, ?_, ?_, fun _ _ => trivial, ?_, fun _ => by omega, ?_⟩
  · rw [← hV, hrc]; exact run_enterLoop_outer _ _ _ _ _
  · simp only [resolve, hg]
    simp [go_sem]
  · simp [invoke, go_sem, e1]
  have far : ∀ {A B : World} {row : Option Nat} {k : Nat} {o : Obj}, A.grownBy B row → (row = none ∨ row = some (w.heap.size + 2)) → k < w.heap.size + 2 → A.heap[k]? = some o → B.heap[k]? = some o := fun hgr hr hk ho =>
    (hgr.block _ (Array.getElem?_eq_some_iff.1 ho).1 (fun e => by rcases hr with h | h <;> rw [h] at e <;> simp at e; omega)).trans ho
  refine (walk1_in (n - 1) (by omega) (w.heap.size + 1) bt bs ta sa tc sc t steps u V (hu.trans hxV) (hxV.cell hbt) (hxV.cell hbs) hS hok h512
    (fun i W => I i W ∧ W.heap[w.heap.size + 1]? = some (.loop (rc .ready none)) ∧ W.heap[w.heap.size]? = some (.deferred (some [])))
    (fun W => ∃ c, Ix c W ∧ W.heap[w.heap.size + 1]? = some (.loop (rc .done (some c))) ∧ W.heap[w.heap.size]? = some (.deferred (some []))) ?_ ⟨hIV, r1, r0⟩ ?_).mono ?_
  · rintro i A B row ⟨a1, a2, a3⟩ hgr hr
    rw [hVs] at hr
    exact ⟨hI i A B row a1 hgr (by rcases hr with h | h <;> simp [h]), far hgr hr (by omega) a2, far hgr hr (by omega) a3⟩
  · rintro i W hi ⟨a1, a2, a3⟩ hxW hcb hSt
    rw [hVs] at hSt ⊢
    have hlt := (Array.getElem?_eq_some_iff.1 a2).1
    have hSlt := hSt.lt
    have hy := run_yield (P := Try.prog) (args := #[.slice (some ⟨w.heap.size + 2, 0, none⟩) t.length t.length]) a2 (by rw [hrc]; rfl)
    rw [hrc] at hy
    have ez : (#[p].zip #[Value.slice (some ⟨w.heap.size + 2, 0, none⟩) t.length t.length]).foldl (fun tm (q, v) => tm.setIfInBounds q v) a.tmps = a.tmps.setIfInBounds p (.slice (some ⟨w.heap.size + 2, 0, none⟩) t.length t.length) := by simp
    dsimp only at hy
    rw [ez] at hy
    refine ⟨fn, _, assign, body, hy, roundIn_of_wpIn hfn (hassign _ W _ ⟨_, run_beginRound a2 (by rw [hrc]), ?_⟩)⟩
    -- the record is busy
    have b2 : (W.putObj (w.heap.size + 1) (.loop { rc .ready none with state := .busy })).heap[w.heap.size + 1]? = some (.loop { rc .ready none with state := .busy }) := World.putObj_heap_same hlt
    have b3 : (W.putObj (w.heap.size + 1) (.loop { rc .ready none with state := .busy })).heap[w.heap.size]? = some (.deferred (some [])) := (World.putObj_heap_other (by omega)).trans a3
    have hgb := grownBy_putObj' W (w.heap.size + 1) (.loop { rc .ready none with state := .busy })
    have hxB : Ext u (W.putObj (w.heap.size + 1) (.loop { rc .ready none with state := .busy })) := hxW.grown hgb (fun k e => by cases e; omega)
    have hcB : (W.putObj (w.heap.size + 1) (.loop { rc .ready none with state := .busy })).cell? ⟨bs, 0, none⟩ = some (.slice sa steps.length sc) := (World.cell?_of_block (hgb.block _ (World.block_lt_of_cell? _ _ hcb) hbne)).trans hcb
    have hSB : St (W.putObj (w.heap.size + 1) (.loop { rc .ready none with state := .busy })) (w.heap.size + 2) (stAt t steps i) := hSt.grown hgb (by simp)
    refine wpIn_mono (hbody _ i _ hi (hI i _ _ _ a1 hgb (by simp)) hxB hcB hSB (by simpa using hSlt)) ?_
    have fin : ∀ (jump : Option Code) (W3 : World), KeepsFrom w.heap.size (W.putObj (w.heap.size + 1) (.loop { rc .ready none with state := .busy })) W3 →
        (Instr.endRound (w.heap.size + 1) jump).run Try.prog W3 = .ok (.bool jump.isNone) (W3.putObj (w.heap.size + 1) (.loop (rc (if jump.isNone then .ready else .done) jump))) ∧
        (W3.putObj (w.heap.size + 1) (.loop (rc (if jump.isNone then .ready else .done) jump))).heap[w.heap.size + 1]? = some (.loop (rc (if jump.isNone then .ready else .done) jump)) ∧
        (W3.putObj (w.heap.size + 1) (.loop (rc (if jump.isNone then .ready else .done) jump))).heap[w.heap.size]? = some (.deferred (some [])) := fun jump W3 hk => by
      have c2 := hk.same _ _ (by omega) b2 rfl
      have := run_endRound (P := Try.prog) jump c2
      rw [hrc] at this ⊢
      exact ⟨this, World.putObj_heap_same (Array.getElem?_eq_some_iff.1 c2).1, (World.putObj_heap_other (by omega)).trans (hk.same _ _ (Nat.le_refl _) b3 rfl)⟩
    have hgp : ∀ (W3 : World) (o : Obj), W3.grownBy (W3.putObj (w.heap.size + 1) o) (some (w.heap.size + 1)) := fun W3 o => grownBy_putObj' W3 _ o
    rintro e a3' W3 hp
    cases e with
    | normal =>
      obtain ⟨hk, hx3, hc3, hS3, hI3⟩ := hp
      obtain ⟨f1, f2, f3⟩ := fin none W3 hk
      have hs3 := hS3.lt
      exact ⟨_, _, f1, .inl ⟨rfl, ⟨hI _ _ _ _ hI3 (hgp _ _) (by simp), f2, f3⟩, hx3.grown (hgp _ _) (fun k e => by cases e; omega),
        (World.cell?_of_block ((hgp W3 _).block _ (World.block_lt_of_cell? _ _ hc3) hbne)).trans hc3, hS3.grown (hgp _ _) (by simp)⟩⟩
    | ret =>
      obtain ⟨hk, hi3⟩ := hp
      obtain ⟨f1, f2, f3⟩ := fin (some .ret) W3 hk
      exact ⟨_, _, f1, .inr ⟨rfl, .ret, hIx _ _ _ _ hi3 (hgp _ _) (by simp), f2, f3⟩⟩
    | exit id =>
      obtain ⟨hk, hi3⟩ := hp
      obtain ⟨f1, f2, f3⟩ := fin (some (.exit id)) W3 hk
      exact ⟨_, _, f1, .inr ⟨rfl, .exit id, hIx _ _ _ _ hi3 (hgp _ _) (by simp), f2, f3⟩⟩
    | goto tg =>
      obtain ⟨hk, hi3⟩ := hp
      obtain ⟨f1, f2, f3⟩ := fin (some (.goto tg)) W3 hk
      exact ⟨_, _, f1, .inr ⟨rfl, .goto tg, hIx _ _ _ _ hi3 (hgp _ _) (by simp), f2, f3⟩⟩
    | panic ch => exact hp.elim
    | outgrown => exact hp.elim
  · rintro e W2 ⟨⟨v, rfl⟩, (⟨a1, a2, a3⟩ | ⟨c, a1, a2, a3⟩)⟩
    · have hend := run_endLoop (P := Try.prog) a2 (by rw [hrc]; simp)
      rw [hrc] at hend
      exact ⟨none, _, hend, hdone _ _ (Nat.le_refl _) (hI _ _ _ _ a1 (grownBy_putObj' W2 _ _) (by simp)) ((World.putObj_heap_other (by omega)).trans a3)⟩
    · have hend := run_endLoop (P := Try.prog) a2 (by rw [hrc]; simp)
      rw [hrc] at hend
      exact ⟨some c, _, hend, hstop _ c _ (Nat.le_refl _) (hIx _ _ _ _ a1 (grownBy_putObj' W2 _ _) (by simp)) ((World.putObj_heap_other (by omega)).trans a3)⟩
end Go.Proofs.Ytkicielleiafgaa
