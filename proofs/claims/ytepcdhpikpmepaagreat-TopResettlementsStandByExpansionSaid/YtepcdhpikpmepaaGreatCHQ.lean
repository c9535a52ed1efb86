import Derived.Test.YtepcdhpikpmepaaGreatCGQ
import Derived.RangeFuncNested
import Derived.RangeFuncBound
import Derived.RangeFuncCalls
import Derived.RangeFuncLeaves
import Derived.Shelf.Abstract
import Derived.Shelf.RegionOpen
import Derived.OwnWalkIn
import Derived.TacticsInMore
import Derived.LoopNIn
import Derived.LoopIn
namespace Go.Proofs.YtepcdhpikpmepaaGreat
open Go.RowKit Go.Shelf

theorem grown_set (w : World) (p : Addr) (v : Value) : w.grownBy (w.setCell p v) (some p.block) := by
 refine ⟨rfl, rfl, rfl, ?_, fun i _ hi => Below.heap_setCell w p v i (fun e => hi (by rw [e]))⟩
 show w.heap.size ≤ (w.heap.modify _ _).size
 rw [Array.size_modify]; exact Nat.le_refl _
def stAt (t : List WishD) (l : List StepD) (i : Nat) : List Int := afterS (zeros t.length) (l.take i)
theorem stAt_len (t : List WishD) (l : List StepD) (i : Nat) : (stAt t l i).length = t.length := by simp [stAt, afterS_len, zeros]

set_option maxHeartbeats 1600000 in
set_option maxRecDepth 100000 in
theorem walk1_in (n : Nat) (hn : 1 ≤ n) (l bt bs : Nat) (ta sa : Option Addr) (tc sc : Nat) (t : List WishD) (steps : List StepD) (u W : World) (hu : Ext u W)
  (hbt : W.cell? ⟨bt, 0, none⟩ = some (.slice ta t.length tc)) (hbs : W.cell? ⟨bs, 0, none⟩ = some (.slice sa steps.length sc)) (hS : Spans u (.slice sa steps.length sc) steps)
  (hok : steps.all (stepOkB t) = true) (h512 : t.length ≤ 512) (J : Nat → World → Prop) (Jx : World → Prop)
  (hJ : ∀ i A B row, J i A → A.grownBy B row → (row = none ∨ row = some W.heap.size) → J i B) (h00 : J 0 W)
  (hY : ∀ i W1, i ≤ steps.length → J i W1 → Ext u W1 → W1.cell? ⟨bs, 0, none⟩ = some (.slice sa steps.length sc) → St W1 W.heap.size (stAt t steps i) →
   YieldAt Fence.wide (n - 1) Tryz.prog l #[.slice (some ⟨W.heap.size, 0, none⟩) t.length t.length] W1 fun e W' =>
    (e = .returned (.bool true) ∧ J (i + 1) W' ∧ Ext u W' ∧ W'.cell? ⟨bs, 0, none⟩ = some (.slice sa steps.length sc) ∧ St W' W.heap.size (stAt t steps i)) ∨ (e = .returned (.bool false) ∧ Jx W')) :
  CallsIn Fence.wide n Tryz.prog 50 #[.func (.yield l) #[] #[], .pointer (some ⟨bt, 0, none⟩), .pointer (some ⟨bs, 0, none⟩)] W fun e W' => (∃ v, e = .returned v) ∧ (J (steps.length + 1) W' ∨ Jx W') := by
 have hmk := run_make_ints t.length (by omega)
 have hok' := Lib.hid hok
 have hus := hu.size
 have hbl := World.block_lt_of_cell? _ _ hbs
 obtain ⟨_, _, e0, hsn, hsc, sat⟩ := hS.open
 cases e0
 have sat' := Lib.hid sat
 have hY' := Lib.hid hY
 have hJ' := Lib.hid hJ
 have hst0 : Hid (St (W.alloc (.cells (zerosV t.length) 3)) W.heap.size (stAt t steps 0)) := Lib.hid (by have := St.new W t.length; simpa [stAt, afterS] using this)
 obtain ⟨fn, tmps, assign, body, hy, hR⟩ := hY 0 (W.alloc (.cells (zerosV t.length) 3)) (by omega) (hJ 0 W _ none h00 (World.grownBy_alloc W _ none) (Or.inl rfl)) (hu.alloc _) (((Ext.refl W).alloc _).cell hbs) hst0.out
 have hR' := Lib.hid hR
 clear hR hY hJ hS sat hok hst0
 refine callsIn_of_wp Tryz.func50 rfl trivial ?_ rfl
 simp only [Tryz.ntmps50, List.size_toArray, List.length_cons, List.length_nil, Nat.reduceAdd, Nat.reduceSub, Array.replicate_succ, Array.replicate_zero, List.push_toArray, List.append_toArray, List.nil_append, List.cons_append]
 gi_wp2
 refine hR'.out.mono ?_
 rintro e W1 (⟨rfl, hJ1, hx1, c1, hS1⟩ | ⟨rfl, hJx⟩)
 ·have hJ1' := Lib.hid hJ1
  have c1' := Lib.hid c1
  have hx1' := Lib.hid hx1
  have hS1' := Lib.hid hS1
  clear hJ1 hx1 hS1 hy hR'
  gi_wp2
  gi_loopw [17] (fun vi wr => ∃ i : Nat, i ≤ steps.length ∧ vi = .int .i64 i ∧ Hid (Ext u wr) ∧ Hid (wr.cell? ⟨bs, 0, none⟩ = some (.slice sa steps.length sc)) ∧ Hid (St wr W.heap.size (stAt t steps i)) ∧ Hid (J (i + 1) wr)) (fun vi _ => steps.length - (intOf vi).toNat)
  case atStart => exact ⟨0, by omega, rfl, hx1', c1', hS1', hJ1'⟩
  case round =>
   clear hJ1' hx1' hS1' c1 c1'
   obtain ⟨i, hi, rfl, hx, hcb, hSt, hJi⟩ := hrel
   by_cases h1 : i < steps.length
   ·obtain ⟨b1, o1, x, y, rfl, hb3, dx, ex, g1, g2⟩ := sat'.out i h1 wr hx.out
    obtain ⟨m, hm, hmt⟩ := stepOk_idx (all_at hok'.out ex.out)
    dsimp only at hm
    subst hm
    have hsl := stAt_len t steps i
    have hnext : Hid (stAt t steps (i + 1) = (stAt t steps i).set m y) := by
     show _ = _
     unfold stAt
     rw [take_step ex.out, afterS_snoc]
     simp [stepS]
    have hlt := hSt.out.lt
    have m1 := hSt.out.cell (i := m) (by omega)
    have m2 := hSt.out.frozen m
    have hg1 : wr.grownBy (wr.setCell ⟨W.heap.size, m, none⟩ (.int .i64 y)) (some W.heap.size) := grown_set wr _ _
    have hJ2 := hJ'.out (i + 1) _ _ _ (hJ'.out (i + 1) _ _ _ hJi.out hg1 (Or.inr rfl)) (World.grownBy_alloc (wr.setCell ⟨W.heap.size, m, none⟩ (.int .i64 y)) (.cells #[.int .i64 m, .int .i64 y] 92) none) (Or.inl rfl)
    have hx2 : Ext u ((wr.setCell ⟨W.heap.size, m, none⟩ (.int .i64 y)).alloc (.cells #[.int .i64 m, .int .i64 y] 92)) := (hx.out.setCell (p := ⟨W.heap.size, m, none⟩) hus _).alloc _
    have hcb2 : ((wr.setCell ⟨W.heap.size, m, none⟩ (.int .i64 y)).alloc (.cells #[.int .i64 m, .int .i64 y] 92)).cell? ⟨bs, 0, none⟩ = some (.slice (some ⟨b1, o1, none⟩) steps.length sc) := ((Ext.refl _).alloc _).cell ((keep_set wr W.heap.size m (.int .i64 y)).cell hcb.out (by dsimp only; omega))
    have hS2 : St ((wr.setCell ⟨W.heap.size, m, none⟩ (.int .i64 y)).alloc (.cells #[.int .i64 m, .int .i64 y] 92)) W.heap.size (stAt t steps (i + 1)) := by
     rw [hnext.out]
     exact (hSt.out.set_ m y).ext ((Ext.refl _).alloc _)
    obtain ⟨fn, tmps, assign, body, hy, hR⟩ := hY'.out (i + 1) _ (by omega) hJ2 hx2 hcb2 hS2
    have hR' := Lib.hid hR
    clear hR hJ2 hx2 hcb2 hcb hS2 hg1 hnext hJi hSt
    gi_wp2
    refine hR'.out.mono ?_
    rintro e W3 (⟨rfl, hJ3, hx3, c3, hS3⟩ | ⟨rfl, hJx⟩)
    ·have hJ3' := Lib.hid hJ3
     have c3' := Lib.hid c3
     have hx3' := Lib.hid hx3
     have hS3' := Lib.hid hS3
     clear hJ3 hx3 c3 hS3 hy hR'
     gi_wp2
     go_roundw
     case rel => first | exact ⟨i + 1, by omega, by go_num, hx3', c3', hS3', hJ3'⟩ | ((repeat apply Exists.intro); exact ⟨⟨i + 1, by omega, by go_num, hx3', c3', hS3', hJ3'⟩, rfl⟩)
     case measure => simp [intOf]; omega
    ·gi_wp2
     refine bodyPost_ret (results_none rfl _ _ _) rfl ?_
     exact ⟨⟨_, rfl⟩, .inr hJx⟩
   ·have hfin : Hid (J (steps.length + 1) wr) := by have := hJi.out; rwa [show i = steps.length by omega] at this
    gi_wp2
    go_end0
    exact ⟨⟨_, rfl⟩, .inl hfin.out⟩
 ·gi_wp2
  refine bodyPost_ret (results_none rfl _ _ _) rfl ?_
  exact ⟨⟨_, rfl⟩, .inr hJx⟩
end Go.Proofs.YtepcdhpikpmepaaGreat
namespace Go.Proofs.YtepcdhpikpmepaaGreat
open Go.RowKit Go.Shelf

def walkPost (B : Nat) (u : World) (bs : Addr) (sv : Value) (S : Nat) (st : List Int) (I : World → Prop) (Ix : Code → World → Prop) (W : World) : Exit → Act → World → Prop
 | .normal, _, W' => KeepsFrom B W W' ∧ Ext u W' ∧ W'.cell? bs = some sv ∧ St W' S st ∧ I W'
 | .ret, _, W' => KeepsFrom B W W' ∧ Ix .ret W'
 | .exit id, _, W' => KeepsFrom B W W' ∧ Ix (.exit id) W'
 | .goto t, _, W' => KeepsFrom B W W' ∧ Ix (.goto t) W'
 | .panic _, _, _ => False
 | .outgrown, _, _ => False

def Stands (B : Nat) (I : World → Prop) : Prop := ∀ A A' row, I A → A.grownBy A' row → (row = none ∨ row = some B ∨ row = some (B + 1) ∨ row = some (B + 2)) → I A'

set_option maxRecDepth 100000 in
theorem wpIn_range_walk {n : Nat} (h1 : 2 ≤ n) {g : Operand} {p : Tmp} {assign body : Code} {Q : Exit → Act → World → Prop} {a : Act} {u w : World} {bt bs : Nat} {ta sa : Option Addr} {tc sc : Nat} {t : List WishD} {steps : List StepD}
  (hg : a.eval g = .func (.func 50) #[] #[.pointer (some ⟨bt, 0, none⟩), .pointer (some ⟨bs, 0, none⟩)])
  (hbt : w.cell? ⟨bt, 0, none⟩ = some (.slice ta t.length tc)) (hbs : w.cell? ⟨bs, 0, none⟩ = some (.slice sa steps.length sc)) (hu : Ext u w) (hS : Spans u (.slice sa steps.length sc) steps)
  (hok : steps.all (stepOkB t) = true) (h512 : t.length ≤ 512) (I : Nat → World → Prop) (Ix : Code → World → Prop) (hI : ∀ i, Stands w.heap.size (I i)) (hIx : ∀ c, Stands w.heap.size (Ix c)) (h0 : I 0 w) (x : Tmp)
  (hassign : ∀ (l : Nat) (W : World) (K : Act → World → Prop), K { tmps := (a.tmps.setIfInBounds p (.slice (some ⟨w.heap.size + 2, 0, none⟩) t.length t.length)).setIfInBounds x (.slice (some ⟨w.heap.size + 2, 0, none⟩) t.length t.length), defers := [] } W →
   assign.wpIn (Fence.wide.inRound l) (n - 1 - 1) Tryz.prog (Exit.then K (fun _ _ _ => False)) { tmps := a.tmps.setIfInBounds p (.slice (some ⟨w.heap.size + 2, 0, none⟩) t.length t.length), defers := [] } W)
  (hbody : ∀ (l i : Nat) (W : World), i ≤ steps.length → I i W → Ext u W → W.cell? ⟨bs, 0, none⟩ = some (.slice sa steps.length sc) → St W (w.heap.size + 2) (stAt t steps i) → w.heap.size + 2 < W.heap.size →
   body.wpIn (Fence.wide.inRound l) (n - 1 - 1) Tryz.prog (walkPost w.heap.size u ⟨bs, 0, none⟩ (.slice sa steps.length sc) (w.heap.size + 2) (stAt t steps i) (I (i + 1)) Ix W) { tmps := (a.tmps.setIfInBounds p (.slice (some ⟨w.heap.size + 2, 0, none⟩) t.length t.length)).setIfInBounds x (.slice (some ⟨w.heap.size + 2, 0, none⟩) t.length t.length), defers := [] } W)
  (hdone : ∀ (D : Nat) (W : World), w.heap.size ≤ D → I (steps.length + 1) W → W.heap[D]? = some (.deferred (some [])) → Q .normal { a with defers := { target := .collected D, args := #[] } :: a.defers } W)
  (hstop : ∀ (D : Nat) (c : Code) (W : World), w.heap.size ≤ D → Ix c W → W.heap[D]? = some (.deferred (some [])) → c.wpIn Fence.wide n Tryz.prog Q { a with defers := { target := .collected D, args := #[] } :: a.defers } W) :
  (Code.rangeFunc g #[p] assign body).wpIn Fence.wide n Tryz.prog Q a w := by
 have hus := hu.size
 have hbl : bs < w.heap.size := World.block_lt_of_cell? _ _ hbs
 have hbne : (some bs : Option Nat) ≠ some (w.heap.size + 1) := fun e => by have := Option.some.inj e; omega
 have e1 : ∀ (args : Array Value) (W : World), (callFunc 50 args).run Tryz.prog W = .ok (.enter 50 args) W := fun args W => by kernel_rfl
 refine wpIn_rangeFunc fun fn hfn => ?_
 -- the loop's record, by its state and its pending jump
 obtain ⟨rc, hrc⟩ : ∃ rc : LoopState → Option Code → Loop, rc = fun st pe => { state := st, pending := pe, fn, tmps := a.tmps, params := #[p], assign, body, defers := w.heap.size } := ⟨_, rfl⟩
 obtain ⟨V, hV⟩ : ∃ V, (w.alloc (.deferred (some []))).alloc (.loop (rc .ready none)) = V := ⟨_, rfl⟩
 have hVs : V.heap.size = w.heap.size + 2 := by rw [← hV]; simp
 have r1 : V.heap[w.heap.size + 1]? = some (.loop (rc .ready none)) := by
  rw [← hV]
  have := World.alloc_heap_new (w.alloc (.deferred (some []))) (.loop (rc .ready none))
  rwa [World.size_alloc] at this
 have r0 : V.heap[w.heap.size]? = some (.deferred (some [])) := by
  rw [← hV]
  exact (Below.heap_alloc _ _ _ (by simp)).trans (World.alloc_heap_new w _)
 have hxV : Ext w V := by rw [← hV]; exact ((Ext.refl w).alloc _).alloc _
 have hIV : I 0 V := by
  rw [← hV]
  exact hI 0 _ _ none (hI 0 _ _ none h0 (World.grownBy_alloc w _ none) (Or.inl rfl)) (World.grownBy_alloc _ _ none) (Or.inl rfl)
 refine ⟨w.heap.size + 1, [{ target := .collected w.heap.size, args := #[] }], V, { target := .fn (.func 50) #[.pointer (some ⟨bt, 0, none⟩), .pointer (some ⟨bs, 0, none⟩)], args := #[.func (.yield (w.heap.size + 1)) #[] #[]] }, V, 50,
  #[.func (.yield (w.heap.size + 1)) #[] #[], .pointer (some ⟨bt, 0, none⟩), .pointer (some ⟨bs, 0, none⟩)], V, ?_, ?_, fun _ _ => trivial, ?_, fun _ => by omega, ?_⟩
 ·rw [← hV, hrc]; exact run_enterLoop_outer _ _ _ _ _
 ·simp only [resolve, hg]
  simp [go_sem]
 ·simp [invoke, go_sem, e1]
 have far : ∀ {A B : World} {row : Option Nat} {k : Nat} {o : Obj}, A.grownBy B row → (row = none ∨ row = some (w.heap.size + 2)) → k < w.heap.size + 2 → A.heap[k]? = some o → B.heap[k]? = some o := fun hgr hr hk ho =>
  (hgr.block _ (Array.getElem?_eq_some_iff.1 ho).1 (fun e => by rcases hr with h | h <;> rw [h] at e <;> simp at e; omega)).trans ho
 refine (walk1_in (n - 1) (by omega) (w.heap.size + 1) bt bs ta sa tc sc t steps u V (hu.trans hxV) (hxV.cell hbt) (hxV.cell hbs) hS hok h512
  (fun i W => I i W ∧ W.heap[w.heap.size + 1]? = some (.loop (rc .ready none)) ∧ W.heap[w.heap.size]? = some (.deferred (some [])))
  (fun W => ∃ c, Ix c W ∧ W.heap[w.heap.size + 1]? = some (.loop (rc .done (some c))) ∧ W.heap[w.heap.size]? = some (.deferred (some []))) ?_ ⟨hIV, r1, r0⟩ ?_).mono ?_
 ·rintro i A B row ⟨a1, a2, a3⟩ hgr hr
  rw [hVs] at hr
  exact ⟨hI i A B row a1 hgr (by rcases hr with h | h <;> simp [h]), far hgr hr (by omega) a2, far hgr hr (by omega) a3⟩
 ·rintro i W hi ⟨a1, a2, a3⟩ hxW hcb hSt
  rw [hVs] at hSt ⊢
  have hlt := (Array.getElem?_eq_some_iff.1 a2).1
  have hSlt := hSt.lt
  have hy := run_yield (P := Tryz.prog) (args := #[.slice (some ⟨w.heap.size + 2, 0, none⟩) t.length t.length]) a2 (by rw [hrc]; rfl)
  rw [hrc] at hy
  have ez : (#[p].zip #[Value.slice (some ⟨w.heap.size + 2, 0, none⟩) t.length t.length]).foldl (fun tm (q, v) => tm.setIfInBounds q v) a.tmps = a.tmps.setIfInBounds p (.slice (some ⟨w.heap.size + 2, 0, none⟩) t.length t.length) := by simp
  dsimp only at hy
  rw [ez] at hy
  refine ⟨fn, _, assign, body, hy, roundIn_of_wpIn hfn (hassign _ W _ ⟨_, run_beginRound a2 (by rw [hrc]), ?_⟩)⟩
  -- the record is busy
  have b2 : (W.putObj (w.heap.size + 1) (.loop { rc .ready none with state := .busy })).heap[w.heap.size + 1]? = some (.loop { rc .ready none with state := .busy }) := World.putObj_heap_same hlt
  have b3 : (W.putObj (w.heap.size + 1) (.loop { rc .ready none with state := .busy })).heap[w.heap.size]? = some (.deferred (some [])) := (World.putObj_heap_other (by omega)).trans a3
  have hgb := grownBy_putObj' W (w.heap.size + 1) (.loop { rc .ready none with state := .busy })
  have hxB : Ext u (W.putObj (w.heap.size + 1) (.loop { rc .ready none with state := .busy })) := hxW.grown hgb (fun k e => by cases e; omega)
  have hcB : (W.putObj (w.heap.size + 1) (.loop { rc .ready none with state := .busy })).cell? ⟨bs, 0, none⟩ = some (.slice sa steps.length sc) := (World.cell?_of_block (hgb.block _ (World.block_lt_of_cell? _ _ hcb) hbne)).trans hcb
  have hSB : St (W.putObj (w.heap.size + 1) (.loop { rc .ready none with state := .busy })) (w.heap.size + 2) (stAt t steps i) := hSt.grown hgb (by simp)
  refine wpIn_mono (hbody _ i _ hi (hI i _ _ _ a1 hgb (by simp)) hxB hcB hSB (by simpa using hSlt)) ?_
  have fin : ∀ (jump : Option Code) (W3 : World), KeepsFrom w.heap.size (W.putObj (w.heap.size + 1) (.loop { rc .ready none with state := .busy })) W3 →
    (Instr.endRound (w.heap.size + 1) jump).run Tryz.prog W3 = .ok (.bool jump.isNone) (W3.putObj (w.heap.size + 1) (.loop (rc (if jump.isNone then .ready else .done) jump))) ∧
    (W3.putObj (w.heap.size + 1) (.loop (rc (if jump.isNone then .ready else .done) jump))).heap[w.heap.size + 1]? = some (.loop (rc (if jump.isNone then .ready else .done) jump)) ∧
    (W3.putObj (w.heap.size + 1) (.loop (rc (if jump.isNone then .ready else .done) jump))).heap[w.heap.size]? = some (.deferred (some [])) := fun jump W3 hk => by
   have c2 := hk.same _ _ (by omega) b2 rfl
   have := run_endRound (P := Tryz.prog) jump c2
   rw [hrc] at this ⊢
   exact ⟨this, World.putObj_heap_same (Array.getElem?_eq_some_iff.1 c2).1, (World.putObj_heap_other (by omega)).trans (hk.same _ _ (Nat.le_refl _) b3 rfl)⟩
  have hgp : ∀ (W3 : World) (o : Obj), W3.grownBy (W3.putObj (w.heap.size + 1) o) (some (w.heap.size + 1)) := fun W3 o => grownBy_putObj' W3 _ o
  rintro e a3' W3 hp
  cases e with
  | normal =>
   obtain ⟨hk, hx3, hc3, hS3, hI3⟩ := hp
   obtain ⟨f1, f2, f3⟩ := fin none W3 hk
   have hs3 := hS3.lt
   exact ⟨_, _, f1, .inl ⟨rfl, ⟨hI _ _ _ _ hI3 (hgp _ _) (by simp), f2, f3⟩, hx3.grown (hgp _ _) (fun k e => by cases e; omega),
    (World.cell?_of_block ((hgp W3 _).block _ (World.block_lt_of_cell? _ _ hc3) hbne)).trans hc3, hS3.grown (hgp _ _) (by simp)⟩⟩
  | ret =>
   obtain ⟨hk, hi3⟩ := hp
   obtain ⟨f1, f2, f3⟩ := fin (some .ret) W3 hk
   exact ⟨_, _, f1, .inr ⟨rfl, .ret, hIx _ _ _ _ hi3 (hgp _ _) (by simp), f2, f3⟩⟩
  | exit id =>
   obtain ⟨hk, hi3⟩ := hp
   obtain ⟨f1, f2, f3⟩ := fin (some (.exit id)) W3 hk
   exact ⟨_, _, f1, .inr ⟨rfl, .exit id, hIx _ _ _ _ hi3 (hgp _ _) (by simp), f2, f3⟩⟩
  | goto tg =>
   obtain ⟨hk, hi3⟩ := hp
   obtain ⟨f1, f2, f3⟩ := fin (some (.goto tg)) W3 hk
   exact ⟨_, _, f1, .inr ⟨rfl, .goto tg, hIx _ _ _ _ hi3 (hgp _ _) (by simp), f2, f3⟩⟩
  | panic ch => exact hp.elim
  | outgrown => exact hp.elim
 ·rintro e W2 ⟨⟨v, rfl⟩, (⟨a1, a2, a3⟩ | ⟨c, a1, a2, a3⟩)⟩
  ·have hend := run_endLoop (P := Tryz.prog) a2 (by rw [hrc]; simp)
   rw [hrc] at hend
   exact ⟨none, _, hend, hdone _ _ (Nat.le_refl _) (hI _ _ _ _ a1 (grownBy_putObj' W2 _ _) (by simp)) ((World.putObj_heap_other (by omega)).trans a3)⟩
  ·have hend := run_endLoop (P := Tryz.prog) a2 (by rw [hrc]; simp)
   rw [hrc] at hend
   exact ⟨some c, _, hend, hstop _ c _ (Nat.le_refl _) (hIx _ _ _ _ a1 (grownBy_putObj' W2 _ _) (by simp)) ((World.putObj_heap_other (by omega)).trans a3)⟩
end Go.Proofs.YtepcdhpikpmepaaGreat
namespace Go.Proofs.YtepcdhpikpmepaaGreat
open Go.RowKit Go.Shelf

attribute [local go_sem] Oper.semAt_some

theorem walk_calls (ta sa : Option Addr) (tn tc sn sc : Nat) (w : World) :
  Calls Tryz.prog 31 #[.agg #[.slice ta tn tc], .slice sa sn sc] w fun e w' => e = .returned (.func (.func 50) #[] #[.pointer (some ⟨w.heap.size, 0, none⟩), .pointer (some ⟨w.heap.size + 1, 0, none⟩)]) ∧ Ext w w' ∧ w'.cell? ⟨w.heap.size, 0, none⟩ = some (.slice ta tn tc) ∧ w'.cell? ⟨w.heap.size + 1, 0, none⟩ = some (.slice sa sn sc) := by
 go_enter Tryz.func31, Tryz.ntmps31
 go_upto_region 1 with (fail)
 refine wp_abs (S := fun W => Hid (Ext w W) ∧ Hid (W.cell? ⟨w.heap.size, 0, none⟩ = some (.slice ta tn tc)) ∧ Hid (W.cell? ⟨w.heap.size + 1, 0, none⟩ = some (.slice sa sn sc))) ?_ ?_
 ·exact ⟨Lib.hid (by exact (by with_reducible repeat' (first | exact Ext.refl _ | assumption | refine Ext.drewN ?_ _ | refine Ext.drew ?_ | refine Ext.alloc ?_ _ | refine Ext.trans ?_ (by with_reducible assumption)))), Lib.hid (by simp), Lib.hid (by simp)⟩
 rintro W ⟨hx, h1, h2⟩
 go_wp2
 go_ret
 exact ⟨rfl, hx.out, h1.out, h2.out⟩

theorem Stands.and {B : Nat} {I K : World → Prop} (h : Stands B I) (k : Stands B K) : Stands B fun W => I W ∧ K W := fun A A' row x g r => ⟨h A A' row x.1 g r, k A A' row x.2 g r⟩
theorem Stands.ext {B : Nat} {w : World} (h : w.heap.size ≤ B) : Stands B (Ext w) := fun A A' row x g r => x.grown g (fun k e => by rcases r with r | r | r | r <;> rw [r] at e <;> cases e <;> omega)
theorem Stands.blk {B g : Nat} {T : TypeId} {cs : Array Value} (h : g < B) : Stands B fun W => Blk W g T cs := fun A A' row x gr r => x.grown gr (fun e => by rcases r with r | r | r | r <;> rw [r] at e <;> cases e <;> omega)
theorem Stands.cell {B : Nat} {p : Addr} {v : Value} (h : p.block < B) : Stands B fun W => W.cell? p = some v := fun A A' row x gr r => by
 have hlt := World.block_lt_of_cell? _ _ x
 exact (World.cell?_of_block (gr.block _ hlt (fun e => by rcases r with r | r | r | r <;> rw [r] at e <;> simp at e <;> omega))).trans x
theorem Stands.hid {B : Nat} {I : World → Prop} (h : Stands B I) : Stands B fun W => Hid (I W) := fun A A' row x g r => Lib.hid (h A A' row x.out g r)

theorem postM_ret {F : Fence} {n : Nat} {P : Program} {fn : Func} {R : Ending → World → Prop} {tmps : Array Value} {w : World} {v : Value} (h : (results fn tmps).run P w = .ok v w) (hR : R (.returned v) w) :
  bodyPostM F n P fn R .ret { tmps := tmps, defers := [] } w := ⟨v, h, hR⟩
theorem postM_ret1 {F : Fence} {n D : Nat} {P : Program} {fn : Func} {R : Ending → World → Prop} {tmps : Array Value} {w : World} {v : Value} (hK : w.heap[D]? = some (.deferred (some [])))
  (h : (results fn tmps).run P (w.putObj D (.deferred none)) = .ok v (w.putObj D (.deferred none))) (hR : R (.returned v) (w.putObj D (.deferred none))) :
  bodyPostM F n P fn R .ret { tmps := tmps, defers := [{ target := .collected D, args := #[] }] } w := ⟨by simp, .inl ⟨_, _, rfl, run_takeDeferred hK, v, h, hR⟩⟩

def parkN (st : List Int) : Nat := st.count (-1)
def mostTo (t : List WishD) (l : List StepD) : Nat → Nat
 | 0 => 0
 | i + 1 => max (mostTo t l i) (parkN (stAt t l i))
def parkedS (t : List WishD) (l : List StepD) : Int × Int := if stepsT t l = 0 then ((mostTo t l (l.length + 1) : Int), 0) else (0, stepsT t l)

end Go.Proofs.YtepcdhpikpmepaaGreat
