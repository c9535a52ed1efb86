/- Merged parts: KS, KU, KV, KW, KX. -/
import Derived.Test.YtjglidlmpjmjeaaGreatDoorKQ
import Derived.Test.YtjglidlmpjmjeaaGreatDoorPG
import Derived.Test.YtjglidlmpjmjeaaGreatDoorPM
import Derived.RangeFuncNested
import Derived.RangeFuncBound
import Derived.RangeFuncCalls
import Derived.RangeFuncLeaves
import Derived.Shelf.Abstract
import Derived.Shelf.RegionOpen
import Derived.OwnWalkIn
import Derived.TacticsInMore
import Derived.LoopNIn
import Derived.LoopIn
import Derived.Test.YtjglidlmpjmjeaaGreatDoorHE
import Derived.BigRegionIn
import Derived.ArgAppend
import Derived.Deep.RegionHeld3
import Derived.Deep.Cut
import Derived.Test.YtjglidlmpjmjeaaGreatDoorRD
/- A range over the selections: a law for loops over an iterator that yields rows of its own; package core's iterator. -/
namespace Go.Proofs.YtjglidlmpjmjeaaGreatDoor
open Go.RowKit Go.Shelf

def KT (A B : World) : Prop := ∀ (g : Nat) (ty : TypeId) (cs : Array Value), Blk A g ty cs → ty ≠ 23 → ty ≠ 32 → Blk B g ty cs
theorem KT.refl (A : World) : KT A A := fun _ _ _ h _ _ => h
theorem KT.trans {A B C : World} (h : KT A B) (k : KT B C) : KT A C := fun g ty cs a b c => k g ty cs (h g ty cs a b c) b c
theorem KT.of_ext {A B : World} (h : Ext A B) : KT A B := fun _ _ _ a _ _ => (Keep.of_ext (X := fun _ => False) h).blk a id
theorem KT.of_keep {A B : World} {X : Nat → Prop} (h : Keep X A B) (hX : ∀ g ty cs, X g → Blk A g ty cs → ty = 23 ∨ ty = 32) : KT A B := fun g ty cs a b c => h.blk a fun hx => by
 rcases hX g ty cs hx a with e | e
 ·exact b e
 ·exact c e
theorem KT.of_obj {A B : World} {r : Nat} (hg : A.grownBy B (some r)) (hr : ∀ ty cs, ¬ Blk A r ty cs) : KT A B := fun g ty cs a _ _ => a.grown hg fun e => by
 cases e
 exact hr ty cs a
theorem KT.owns {A B : World} {base size n : Nat} {v : Value} {xs : List Value} (h : KT A B) (ho : A.ownsRow base 3 size v n xs) : B.ownsRow base 3 size v n xs := by
 rcases ho with ⟨h1, h2 | ⟨g, cap, cur, e, hb, hg, r⟩⟩
 ·exact ⟨h1, Or.inl h2⟩
 ·exact ⟨h1, Or.inr ⟨g, cap, cur, e, hb, h g _ _ hg (by decide) (by decide), r⟩⟩

def IterV (F : Nat) (caps : Array Value) (N : Nat) (val : Nat → List Int) (C : World → Prop) : Prop :=
 ∀ (l : Nat) (W : World) (J : Nat → World → Prop) (Jx : World → Prop), C W → (∀ i A B, J i A → Ext A B → J i B) → J 0 W →
  (∀ i W1 v, i < N → J i W1 → (∃ B, IntsO W1 B v (val i)) → YieldAt Fence.wide 3 Tryz.prog l #[v] W1 fun e W' => (e = .returned (.bool true) ∧ J (i + 1) W' ∧ KT W1 W') ∨ (e = .returned (.bool false) ∧ Jx W')) →
  CallsIn Fence.wide 4 Tryz.prog F (#[.func (.yield l) #[] #[]] ++ caps) W fun e W' => (∃ v, e = .returned v) ∧ (J N W' ∨ Jx W')
def selPost (B : Nat) (I : World → Prop) (Ix : Code → World → Prop) (W : World) : Exit → Act → World → Prop
 | .normal, _, W' => KeepsFrom B W W' ∧ KT W W' ∧ I W'
 | .ret, _, W' => KeepsFrom B W W' ∧ Ix .ret W'
 | .exit id, _, W' => KeepsFrom B W W' ∧ Ix (.exit id) W'
 | .goto t, _, W' => KeepsFrom B W W' ∧ Ix (.goto t) W'
 | .panic _, _, _ => False
 | .outgrown, _, _ => False
def StandsR (B : Nat) (I : World → Prop) : Prop := ∀ A A', I A → (Ext A A' ∨ ∃ row, A.grownBy A' row ∧ (∀ ty cs r, row = some r → ¬ Blk A r ty cs) ∧ (row = some B ∨ row = some (B + 1))) → I A'
set_option maxRecDepth 100000 in
theorem wpIn_range_sel {g : Operand} {p : Tmp} {assign body : Code} {Q : Exit → Act → World → Prop} {a : Act} {w : World} {F N : Nat} {caps : Array Value} {val : Nat → List Int} {C : World → Prop}
  (hg : a.eval g = .func (.func F) #[] caps) (e1 : ∀ (args : Array Value) (W : World), (callFunc F args).run Tryz.prog W = .ok (.enter F args) W)
  (hit : IterV F caps N val C) (hC : ∀ A B, C A → Ext A B → C B) (hCw : C w) (I : Nat → World → Prop) (Ix : Code → World → Prop) (hI : ∀ i, StandsR w.heap.size (I i)) (hIx : ∀ c, StandsR w.heap.size (Ix c)) (h0 : I 0 w) (x : Tmp)
  (hassign : ∀ (l n0 c0 : Nat) (A0 : Option Addr) (W : World) (K : Act → World → Prop), K { tmps := (a.tmps.setIfInBounds p (.slice A0 n0 c0)).setIfInBounds x (.pointer (some ⟨W.heap.size, 0, none⟩)), defers := [] } (W.alloc (.cells #[.slice A0 n0 c0] 23)) →
   assign.wpIn (Fence.wide.inRound l) 3 Tryz.prog (Exit.then K (fun _ _ _ => False)) { tmps := a.tmps.setIfInBounds p (.slice A0 n0 c0), defers := [] } W)
  (hbody : ∀ (l i lb : Nat) (v : Value) (W : World), i < N → I i W → (∃ B, IntsO W B v (val i)) → Blk W lb 23 #[v] → w.heap.size + 2 ≤ lb →
   body.wpIn (Fence.wide.inRound l) 3 Tryz.prog (selPost w.heap.size (I (i + 1)) Ix W) { tmps := (a.tmps.setIfInBounds p v).setIfInBounds x (.pointer (some ⟨lb, 0, none⟩)), defers := [] } W)
  (hdone : ∀ (D : Nat) (W : World), w.heap.size ≤ D → I N W → W.heap[D]? = some (.deferred (some [])) → Q .normal { a with defers := { target := .collected D, args := #[] } :: a.defers } W)
  (hstop : ∀ (D : Nat) (c : Code) (W : World), w.heap.size ≤ D → Ix c W → W.heap[D]? = some (.deferred (some [])) → c.wpIn Fence.wide 5 Tryz.prog Q { a with defers := { target := .collected D, args := #[] } :: a.defers } W) :
  (Code.rangeFunc g #[p] assign body).wpIn Fence.wide 5 Tryz.prog Q a w := by
 refine wpIn_rangeFunc fun fn hfn => ?_
 obtain ⟨rc, hrc⟩ : ∃ rc : LoopState → Option Code → Loop, rc = fun st pe => { state := st, pending := pe, fn, tmps := a.tmps, params := #[p], assign, body, defers := w.heap.size } := ⟨_, rfl⟩
 obtain ⟨V, hV⟩ : ∃ V, (w.alloc (.deferred (some []))).alloc (.loop (rc .ready none)) = V := ⟨_, rfl⟩
 have r1 : V.heap[w.heap.size + 1]? = some (.loop (rc .ready none)) := by
  rw [← hV]
  have := World.alloc_heap_new (w.alloc (.deferred (some []))) (.loop (rc .ready none))
  rwa [World.size_alloc] at this
 have r0 : V.heap[w.heap.size]? = some (.deferred (some [])) := by
  rw [← hV]
  exact (Below.heap_alloc _ _ _ (by simp)).trans (World.alloc_heap_new w _)
 have xV : Ext w V := by rw [← hV]; exact ((Ext.refl w).alloc _).alloc _
 refine ⟨w.heap.size + 1, [{ target := .collected w.heap.size, args := #[] }], V, { target := .fn (.func F) caps, args := #[.func (.yield (w.heap.size + 1)) #[] #[]] }, V, F,
  #[.func (.yield (w.heap.size + 1)) #[] #[]] ++ caps, V, ?_, ?_, fun _ _ => trivial, ?_, fun _ => by omega, ?_⟩
 ·rw [← hV, hrc]; exact run_enterLoop_outer _ _ _ _ _
 ·simp only [resolve, hg]
  simp [go_sem]
 ·simp [invoke, go_sem, e1]
 have far : ∀ {A B : World} {k : Nat} {o : Obj}, Ext A B → A.heap[k]? = some o → B.heap[k]? = some o := fun he ho => (he.heap (Array.getElem?_eq_some_iff.1 ho).1).trans ho
 have nb : ∀ {A : World} {r : Nat} {q : Loop} {ty : TypeId} {cs : Array Value}, A.heap[r]? = some (.loop q) → ¬ Blk A r ty cs := fun h hb => by rw [hb] at h; cases h
 refine (hit (w.heap.size + 1) V
  (fun i W => I i W ∧ W.heap[w.heap.size + 1]? = some (.loop (rc .ready none)) ∧ W.heap[w.heap.size]? = some (.deferred (some [])))
  (fun W => ∃ c, Ix c W ∧ W.heap[w.heap.size + 1]? = some (.loop (rc .done (some c))) ∧ W.heap[w.heap.size]? = some (.deferred (some []))) (hC _ _ hCw xV) ?_ ⟨hI 0 _ _ h0 (Or.inl xV), r1, r0⟩ ?_).mono ?_
 ·rintro i A B ⟨a1, a2, a3⟩ hgr
  exact ⟨hI i A B a1 (Or.inl hgr), far hgr a2, far hgr a3⟩
 ·rintro i W v hi ⟨a1, a2, a3⟩ ⟨B0, hv⟩
  obtain ⟨A0, c0, rfl⟩ := owns_form hv
  have hlt := (Array.getElem?_eq_some_iff.1 a2).1
  have hy := run_yield (P := Tryz.prog) (args := #[.slice A0 (val i).length c0]) a2 (by rw [hrc]; rfl)
  rw [hrc] at hy
  have ez : (#[p].zip #[.slice A0 (val i).length c0]).foldl (fun tm (q, v) => tm.setIfInBounds q v) a.tmps = a.tmps.setIfInBounds p (.slice A0 (val i).length c0) := by simp
  dsimp only at hy
  rw [ez] at hy
  obtain ⟨U, hU⟩ : ∃ U, W.alloc (.cells #[.slice A0 (val i).length c0] 23) = U := ⟨_, rfl⟩
  have xU : Ext W U := by rw [← hU]; exact (Ext.refl W).alloc _
  have hbU : Blk U W.heap.size 23 #[.slice A0 (val i).length c0] := by rw [← hU]; exact Blk.new _ _ _
  have u2 := far xU a2
  have u3 := far xU a3
  have hltU := (Array.getElem?_eq_some_iff.1 u2).1
  refine ⟨fn, _, assign, body, hy, roundIn_of_wpIn hfn (hassign _ _ _ _ W _ ?_)⟩
  rw [hU]
  refine ⟨_, run_beginRound u2 (by rw [hrc]), ?_⟩
  have b2 : (U.putObj (w.heap.size + 1) (.loop { rc .ready none with state := .busy })).heap[w.heap.size + 1]? = some (.loop { rc .ready none with state := .busy }) := World.putObj_heap_same hltU
  have b3 : (U.putObj (w.heap.size + 1) (.loop { rc .ready none with state := .busy })).heap[w.heap.size]? = some (.deferred (some [])) := (World.putObj_heap_other (by omega)).trans u3
  have hgb := grownBy_putObj' U (w.heap.size + 1) (.loop { rc .ready none with state := .busy })
  have kb : KT U (U.putObj (w.heap.size + 1) (.loop { rc .ready none with state := .busy })) := KT.of_obj hgb fun ty cs => nb u2
  refine wpIn_mono (hbody _ i W.heap.size (.slice A0 (val i).length c0) _ hi (hI i _ _ (hI i _ _ a1 (Or.inl xU)) (Or.inr ⟨_, hgb, fun ty cs r e => (by cases e; exact nb u2), by simp⟩)) ⟨B0, kb.owns (KT.owns (KT.of_ext xU) hv)⟩ (hbU.grown hgb (fun e => by have := Option.some.inj e; omega)) (by omega)) ?_
  have fin : ∀ (jump : Option Code) (W3 : World), KeepsFrom w.heap.size (U.putObj (w.heap.size + 1) (.loop { rc .ready none with state := .busy })) W3 →
    (Instr.endRound (w.heap.size + 1) jump).run Tryz.prog W3 = .ok (.bool jump.isNone) (W3.putObj (w.heap.size + 1) (.loop (rc (if jump.isNone then .ready else .done) jump))) ∧
    (W3.putObj (w.heap.size + 1) (.loop (rc (if jump.isNone then .ready else .done) jump))).heap[w.heap.size + 1]? = some (.loop (rc (if jump.isNone then .ready else .done) jump)) ∧
    (W3.putObj (w.heap.size + 1) (.loop (rc (if jump.isNone then .ready else .done) jump))).heap[w.heap.size]? = some (.deferred (some [])) ∧ (∀ ty cs, ¬ Blk W3 (w.heap.size + 1) ty cs) := fun jump W3 hk => by
   have c2 := hk.same _ _ (by omega) b2 rfl
   have := run_endRound (P := Tryz.prog) jump c2
   rw [hrc] at this ⊢
   exact ⟨this, World.putObj_heap_same (Array.getElem?_eq_some_iff.1 c2).1, (World.putObj_heap_other (by omega)).trans (hk.same _ _ (Nat.le_refl _) b3 rfl), fun ty cs => nb c2⟩
  have hgp : ∀ (W3 : World) (o : Obj), W3.grownBy (W3.putObj (w.heap.size + 1) o) (some (w.heap.size + 1)) := fun W3 o => grownBy_putObj' W3 _ o
  rintro e a3' W3 hp
  cases e with
  | normal =>
   obtain ⟨hk, hkt, hI3⟩ := hp
   obtain ⟨f1, f2, f3, f4⟩ := fin none W3 hk
   exact ⟨_, _, f1, .inl ⟨rfl, ⟨hI _ _ _ hI3 (Or.inr ⟨_, hgp _ _, fun ty cs r e => (by cases e; exact f4 ty cs), by simp⟩), f2, f3⟩, (KT.of_ext xU).trans (kb.trans (hkt.trans (KT.of_obj (hgp _ _) f4)))⟩⟩
  | ret =>
   obtain ⟨hk, hi3⟩ := hp
   obtain ⟨f1, f2, f3, f4⟩ := fin (some .ret) W3 hk
   exact ⟨_, _, f1, .inr ⟨rfl, .ret, hIx _ _ _ hi3 (Or.inr ⟨_, hgp _ _, fun ty cs r e => (by cases e; exact f4 ty cs), by simp⟩), f2, f3⟩⟩
  | exit id =>
   obtain ⟨hk, hi3⟩ := hp
   obtain ⟨f1, f2, f3, f4⟩ := fin (some (.exit id)) W3 hk
   exact ⟨_, _, f1, .inr ⟨rfl, .exit id, hIx _ _ _ hi3 (Or.inr ⟨_, hgp _ _, fun ty cs r e => (by cases e; exact f4 ty cs), by simp⟩), f2, f3⟩⟩
  | goto tg =>
   obtain ⟨hk, hi3⟩ := hp
   obtain ⟨f1, f2, f3, f4⟩ := fin (some (.goto tg)) W3 hk
   exact ⟨_, _, f1, .inr ⟨rfl, .goto tg, hIx _ _ _ hi3 (Or.inr ⟨_, hgp _ _, fun ty cs r e => (by cases e; exact f4 ty cs), by simp⟩), f2, f3⟩⟩
  | panic ch => exact hp.elim
  | outgrown => exact hp.elim
 ·rintro e W2 ⟨⟨v, rfl⟩, (⟨a1, a2, a3⟩ | ⟨c, a1, a2, a3⟩)⟩
  ·have hend := run_endLoop (P := Tryz.prog) a2 (by rw [hrc]; simp)
   rw [hrc] at hend
   exact ⟨none, _, hend, hdone _ _ (Nat.le_refl _) (hI _ _ _ a1 (Or.inr ⟨_, grownBy_putObj' W2 _ _, fun ty cs r e => (by cases e; exact nb a2), by simp⟩)) ((World.putObj_heap_other (by omega)).trans a3)⟩
  ·have hend := run_endLoop (P := Tryz.prog) a2 (by rw [hrc]; simp)
   rw [hrc] at hend
   exact ⟨some c, _, hend, hstop _ c _ (Nat.le_refl _) (hIx _ _ _ a1 (Or.inr ⟨_, grownBy_putObj' W2 _ _, fun ty cs r e => (by cases e; exact nb a2), by simp⟩)) ((World.putObj_heap_other (by omega)).trans a3)⟩
end Go.Proofs.YtjglidlmpjmjeaaGreatDoor

/- Package core's iterator over the selections. -/
namespace Go.Proofs.YtjglidlmpjmjeaaGreatDoor
open Go.RowKit Go.Shelf
attribute [local go_sem] Oper.semAt_some

theorem yieldAt_wide {m m' : Nat} {P : Program} {l : Nat} {args : Array Value} {W : World} {R : Ending → World → Prop} (h : YieldAt Fence.wide m P l args W R) : YieldAt Fence.wide m' P l args W R :=
 let ⟨fn, t, a, b, h1, h2⟩ := h
 ⟨fn, t, a, b, h1, h2.1, fun c cs _ => h2.2 c cs (room_wide _)⟩
structure SelEnv (W : World) (Yb Nb Gb l n : Nat) : Prop where
 yb : Blk W Yb 67 #[.func (.yield l) #[] #[]]
 nb : Blk W Nb 3 #[.int .i64 (n : Int)]
 gb : Blk W Gb 65 #[.func (.func 62) #[] #[.pointer (some ⟨Yb, 0, none⟩), .pointer (some ⟨Nb, 0, none⟩), .pointer (some ⟨Gb, 0, none⟩)]]
theorem SelEnv.kt {W W' : World} {Yb Nb Gb l n : Nat} (h : SelEnv W Yb Nb Gb l n) (k : KT W W') : SelEnv W' Yb Nb Gb l n :=
 ⟨k _ _ _ h.yb (by decide) (by decide), k _ _ _ h.nb (by decide) (by decide), k _ _ _ h.gb (by decide) (by decide)⟩
def Behind (s : List Int) (first : Nat) : Prop := (s = [] ∧ first = 0) ∨ ∃ s' m, s = s' ++ [((m : Nat) : Int)] ∧ first = m + 1
def SelOut (J : Nat → World → Prop) (Jx : World → Prop) (N : Nat) (W : World) (e : Ending) (W' : World) : Prop := ∃ b : Bool, e = .returned (.bool b) ∧ (b = true → J N W' ∧ KT W W') ∧ (b = false → Jx W')
set_option maxHeartbeats 3200000 in
set_option maxRecDepth 100000 in
theorem selGrow_end (Yb Nb Gb l n : Nat) (J : Nat → World → Prop) (Jx : World → Prop) (hJ : ∀ i A B, J i A → Ext A B → J i B) (s : List Int) (lv : Value) (W : World) (B i0 : Nat) (hE : SelEnv W Yb Nb Gb l n) (hs : IntsO W B lv s) (hsl : s.length ≤ 12) (h0 : J i0 W)
  (hY : ∀ W1 v, J i0 W1 → (∃ B, IntsO W1 B v s) → YieldAt Fence.wide 3 Tryz.prog l #[v] W1 (SelOut J Jx (i0 + 1) W1)) :
  Calls Tryz.prog 62 #[lv, .int .i64 s.length, .pointer (some ⟨Yb, 0, none⟩), .pointer (some ⟨Nb, 0, none⟩), .pointer (some ⟨Gb, 0, none⟩)] W (SelOut J Jx (i0 + 1) W) := by
 obtain ⟨la, lc, rfl⟩ := owns_form hs
 have hcl := Lib.hid fun (V : World) (hV : Ext W V) => clone_int_calls (.slice la s.length lc) s V (hs.read.ext hV) (by omega)
 have hE' := Lib.hid hE
 have hJ' := Lib.hid hJ
 have h0' := Lib.hid h0
 have hY' := Lib.hid hY
 have c1 : W.cell? ⟨Yb, 0, none⟩ = some (.func (.yield l) #[] #[]) := hE.yb.cell 0
 have l1 := hE.yb.lt
 clear hE hs hJ h0 hY
 refine (callsIn_wide (n := 5)).1 ?_
 refine callsIn_of_wp Tryz.func62 rfl trivial ?_ rfl
 simp only [Tryz.ntmps62, List.size_toArray, List.length_cons, List.length_nil, Nat.reduceAdd, Nat.reduceSub, Array.replicate_succ, Array.replicate_zero, List.push_toArray, List.append_toArray, List.nil_append, List.cons_append]
 gi_wp2_with fail
 gi_region_with (first
  | (refine ⟨trivial, ?_⟩; gi_at_call 63; refine (callsIn_wide.2 (hcl.out _ (by with_reducible repeat' (first | exact Ext.refl _ | assumption | refine Ext.drewN ?_ _ | refine Ext.drew ?_ | refine Ext.alloc ?_ _ | refine Ext.trans ?_ (by with_reducible assumption))))).mono ?_; rintro e w1 ⟨v, rfl, ho, hx1⟩; have hx2 : Ext W w1 := (by first | exact hx1 | exact ((Ext.refl W).drew.trans hx1)); have hR' := Lib.hid (yieldAt_wide (m' := 4) (hY'.out w1 v (hJ'.out _ _ _ h0'.out hx2) ⟨_, ho⟩)); have hx2' := Lib.hid hx2; have c2 : w1.cell? ⟨Yb, 0, none⟩ = some (.func (.yield l) #[] #[]) := hx2.cell c1; have l2 := Nat.lt_of_lt_of_le l1 hx2.size; obtain ⟨fn, tm, ass, bd, hy, hR⟩ := hR'.out; have hRR := Lib.hid hR; clear hR ho hx1 hx2 hR')
  | (refine hRR.out.mono ?_; rintro e W3 ⟨b, rfl, hb⟩))
 all_goals
  gi_wp2
  go_ret
  exact ⟨b, rfl, fun h => ⟨(hb.1 h).1, (KT.of_ext hx2'.out).trans (hb.1 h).2⟩, hb.2⟩

theorem step_append_grows {P : Program} {w : World} {ops : Array Oper} {o : Oper} {a : Act} {K : Act → World → Prop} {Q : Exit → Act → World → Prop} {E : Prop} (hgd : o.guard = none) (s x : Operand) (t : TypeId)
  (ho : o.op = .call { callee := .builtin .append, args := #[s, x], argTypes := #[t, t] })
  (e : TypeId) (i : TypeInfo) (z : Value) (size bytes : Nat) (ht : P.underlying t = some (.slice e)) (hi : P.info? e = some i) (hz : i.zero = some z)
  (hsize : i.size = size) (hby : i.bytes = bytes) (hzs : z.cells.size = size) (hsz : 0 < size)
  (ao : Option Addr) (n cap : Nat) (olds : List Value) (hs : a.eval s = .slice ao n cap) (hnone : ao = none → n = 0 ∧ cap = 0) (hlo : olds.length = n * size) (holds : ∀ b, ao = some b → ∀ j u, olds[j]? = some u → w.cell? (b.add j) = some u)
  (ad : Addr) (m c : Nat) (news : List Value) (hx : a.eval x = .slice (some ad) m c) (hn : news.length = m * size) (hc : ∀ j u, news[j]? = some u → w.cell? (ad.add j) = some u) (h1c : ∀ u ∈ news, u.oneCell' = true)
  (hfull : cap < n + m) (b1 : n + m ≤ maxLen) (b2 : (n + m) * bytes ≤ 140737488355328)
  (h : ∀ v' w', w'.ownsRow w.heap.size e size v' (n + m) (olds ++ news) → w.grownBy w' none → K (a.put o.dst v') w') :
  if Region.wanted o (yielded ops a.tmps) = true then Oper.wp P o a w K Q else E := by
 have hw : Region.wanted o (yielded ops a.tmps) = true := by simp [Region.wanted, hgd]
 rw [if_pos hw]
 cases ao with
 | some b =>
  obtain ⟨v', w', hrun, r1, r2⟩ := run_append_arg_grows (P := P) w t o.type e i z size bytes ht hi hz hsize hby hzs hsz b n cap olds hlo (holds b rfl) ad m c news hn hc hfull b1 b2
  unfold Oper.wp execOp
  simp only [ho, resolve, invoke, builtin, Sem.run_bind, Sem.run_pure, Result.andThen_ok, List.map_toArray, List.map_cons, List.map_nil, hs, hx, hrun]
  exact h v' w' r1 r2
 | none =>
  obtain ⟨rfl, rfl⟩ := hnone rfl
  obtain rfl : olds = [] := List.eq_nil_of_length_eq_zero (by simpa using hlo)
  obtain ⟨v', w', hrun, r1, r2, _⟩ := run_append_own (P := P) w w.heap.size t o.type e i z size bytes ht hi hz hsize hby hzs hsz (.slice none 0 0) 0 [] (World.ownsRow_nil w _ e size) ad m c news hn hc h1c b1 b2 (Nat.le_refl _)
  unfold Oper.wp execOp
  simp only [ho, resolve, invoke, builtin, Sem.run_bind, Sem.run_pure, Result.andThen_ok, List.map_toArray, List.map_cons, List.map_nil, hs, hx, hrun]
  exact h v' w' r1 r2
theorem run_append_full {P : Program} {w : World} {o : Oper} {a : Act} (s x : Operand) (t : TypeId) (ho : o.op = .call { callee := .builtin .append, args := #[s, x], argTypes := #[t, t] })
  (e : TypeId) (i : TypeInfo) (z : Value) (size bytes : Nat) (ht : P.underlying t = some (.slice e)) (hi : P.info? e = some i) (hz : i.zero = some z)
  (hsize : i.size = size) (hby : i.bytes = bytes) (hzs : z.cells.size = size) (hsz : 0 < size)
  (ao : Option Addr) (n cap : Nat) (olds : List Value) (hs : a.eval s = .slice ao n cap) (hnone : ao = none → n = 0 ∧ cap = 0) (hlo : olds.length = n * size) (holds : ∀ b, ao = some b → ∀ j u, olds[j]? = some u → w.cell? (b.add j) = some u)
  (ad : Addr) (m c : Nat) (news : List Value) (hx : a.eval x = .slice (some ad) m c) (hn : news.length = m * size) (hc : ∀ j u, news[j]? = some u → w.cell? (ad.add j) = some u) (h1c : ∀ u ∈ news, u.oneCell' = true)
  (hfull : cap < n + m) (b1 : n + m ≤ maxLen) (b2 : (n + m) * bytes ≤ 140737488355328) :
  ∃ v' w', (execOp a.eval o).run P w = .ok (.value v') w' ∧ w'.ownsRow w.heap.size e size v' (n + m) (olds ++ news) ∧ w.grownBy w' none := by
 cases ao with
 | some b =>
  obtain ⟨v', w', hrun, r1, r2⟩ := run_append_arg_grows (P := P) w t o.type e i z size bytes ht hi hz hsize hby hzs hsz b n cap olds hlo (holds b rfl) ad m c news hn hc hfull b1 b2
  refine ⟨v', w', ?_, r1, r2⟩
  unfold execOp
  simp only [ho, resolve, invoke, builtin, Sem.run_bind, Sem.run_pure, Result.andThen_ok, List.map_toArray, List.map_cons, List.map_nil, hs, hx, hrun]
 | none =>
  obtain ⟨rfl, rfl⟩ := hnone rfl
  obtain rfl : olds = [] := List.eq_nil_of_length_eq_zero (by simpa using hlo)
  obtain ⟨v', w', hrun, r1, r2, _⟩ := run_append_own (P := P) w w.heap.size t o.type e i z size bytes ht hi hz hsize hby hzs hsz (.slice none 0 0) 0 [] (World.ownsRow_nil w _ e size) ad m c news hn hc h1c b1 b2 (Nat.le_refl _)
  refine ⟨v', w', ?_, r1, r2⟩
  unfold execOp
  simp only [ho, resolve, invoke, builtin, Sem.run_bind, Sem.run_pure, Result.andThen_ok, List.map_toArray, List.map_cons, List.map_nil, hs, hx, hrun]
theorem held_grow {P : Program} {l : List Oper} {w0 : World} {Con : Nat → Value → World → Prop} {L : Act → HSt → Prop} {a : Act} {s : HSt} {o : Oper} {rest : List Oper} (k : Nat) (hs : List Nat) (ho : l.drop k = o :: rest)
  (hw : Region.wanted o (yielded l.toArray a.tmps) = true) (hfr : freshOp o = false) (hcon : ∀ W W' v, Ext W W' → Con k v W → Con k v W')
  (hrun : ∀ W, Ext w0 W → (∀ j, Dep .any l.toArray k j → s.fact j W) → ∃ v W', (execOp a.eval o).run P W = .ok (.value v) W' ∧ Ext W W' ∧ Con k v W')
  (h : ∀ v, (∃ W, Ext w0 W ∧ Con k v W) → heldLex P l.toArray .any w0 Con L hs (a.put o.dst v) (s.upd k (Con k v) none)) : heldLex P l.toArray .any w0 Con L (k :: hs) a s := by
 refine held_op k hs ho hw (fun W v => Con k v W) hcon (fun W hW hD => ?_) (fun u hu => ?_)
 ·obtain ⟨v, W', e, h1, h2⟩ := hrun W hW hD
  rw [e]
  exact ⟨h1, h2, fun g hg => by rw [tokOf_none hfr] at hg; cases hg⟩
 ·obtain ⟨W, hW, hf⟩ := hu
  rw [tokOf_none hfr]
  exact h u ⟨W, hW, (hf k).2 rfl⟩
def AppCon (q n base : Nat) (xs : List Value) (k : Nat) (v : Value) (W : World) : Prop := k = q → ∃ g c, v = .slice (some ⟨g, 0, none⟩) n c ∧ W.ownsRow base 3 1 v n xs
theorem run_append_con {w : World} {o : Oper} {a : Act} (s x : Operand) (ho : o.op = .call { callee := .builtin .append, args := #[s, x], argTypes := #[23, 23] })
  (ao : Option Addr) (n : Nat) (olds : List Value) (hs : a.eval s = .slice ao n n) (hnone : ao = none → n = 0) (hlo : olds.length = n) (holds : ∀ b, ao = some b → ∀ j u, olds[j]? = some u → w.cell? (b.add j) = some u)
  (ad : Addr) (z : Int) (hx : a.eval x = .slice (some ad) 1 1) (hc : w.cell? ad = some (.int .i64 z)) (b1 : n ≤ 1000) (q base : Nat) (hb : base ≤ w.heap.size) :
  ∃ v W', (execOp a.eval o).run Tryz.prog w = .ok (.value v) W' ∧ Ext w W' ∧ AppCon q (n + 1) base (olds ++ [.int .i64 z]) q v W' := by
 obtain ⟨j0, hj0, jz0, jz1, jz2⟩ := info_parts int_info
 obtain ⟨v', V', e1, e2, e3⟩ := run_append_full (P := Tryz.prog) (w := w) (o := o) (a := a) s x 23 ho 3 j0 _ 1 8 Tryz.underlying23 hj0 jz0 jz1 jz2 rfl (by decide) ao n n olds hs (fun h => ⟨hnone h, hnone h⟩) (by omega) holds ad 1 1 [.int .i64 z] hx rfl (fun j u h => by
  cases j with
  | zero => simp at h; subst h; have := hc; rwa [show ad.add 0 = ad by unfold Addr.add; split <;> simp_all]
  | succ j => simp at h) (by simp [Value.oneCell']) (by omega) (by unfold maxLen; omega) (by omega)
 have hp : ∃ g c, v' = .slice (some ⟨g, 0, none⟩) (n + 1) c := by
  rcases e2.2 with ⟨_, h⟩ | ⟨g, c, _, h, _⟩
  ·omega
  ·exact ⟨g, c, h⟩
 obtain ⟨g4, c4, e4⟩ := hp
 exact ⟨v', V', e1, (Ext.refl w).grown e3 (by intro q hq; cases hq), fun _ => ⟨g4, c4, e4, owns_base e2 hb⟩⟩
theorem ints_cells {W : World} {b off n c : Nat} {l : List Int} (h : Ints W (.slice (some ⟨b, off, none⟩) n c) l) : ∀ j z, l[j]? = some z → W.cell? ⟨b, off + j, none⟩ = some (.int .i64 z) := fun j z hz => by
 obtain ⟨a', c', e, h1, h2, h3⟩ := h
 cases e
 have hj := (List.getElem?_eq_some_iff.1 hz).1
 obtain ⟨b', off', e1, e2, e3⟩ := h3 (by omega)
 cases e1
 have := e3 j hj 0 (by omega)
 rw [Nat.mul_one, Nat.add_zero] at this
 rw [this]
 simp [hz]
theorem comb_split {n k first i : Nat} {s : List Int} (h1 : first ≤ i) (h2 : i < n) :
  combs n (k + 1) first s = ((List.range' first (i - first)).flatMap fun q => combs n k (q + 1) (s ++ [(q : Int)])) ++ (combs n k (i + 1) (s ++ [(i : Int)]) ++ ((List.range' (i + 1) (n - (i + 1))).flatMap fun q => combs n k (q + 1) (s ++ [(q : Int)]))) := by
 simp only [combs]
 have e1 : List.range' first (n - first) = List.range' first (i - first) ++ List.range' i (n - i) := by
  have := List.range'_append_1 (s := first) (m := i - first) (n := n - i)
  rw [show first + (i - first) = i by omega, show i - first + (n - i) = n - first by omega] at this
  exact this.symm
 rw [e1, List.flatMap_append, show n - i = (n - (i + 1)) + 1 by omega, List.range'_succ, List.flatMap_cons]
def offC (n k first : Nat) (s : List Int) (i : Nat) : Nat := ((List.range' first (i - first)).flatMap fun q => combs n k (q + 1) (s ++ [(q : Int)])).length
theorem offC_zero (n k first : Nat) (s : List Int) : offC n k first s first = 0 := by simp [offC]
theorem offC_succ {n k first i : Nat} {s : List Int} (h : first ≤ i) : offC n k first s (i + 1) = offC n k first s i + (combs n k (i + 1) (s ++ [(i : Int)])).length := by
 unfold offC
 have e1 : List.range' first (i + 1 - first) = List.range' first (i - first) ++ [i] := by
  have := List.range'_append_1 (s := first) (m := i - first) (n := 1)
  rw [show first + (i - first) = i by omega, show i - first + 1 = i + 1 - first by omega] at this
  exact this.symm
 rw [e1, List.flatMap_append, List.length_append]
 simp
theorem offC_end (n k first : Nat) (s : List Int) : offC n k first s n = (combs n (k + 1) first s).length := rfl
theorem offC_at {n k first i j : Nat} {s : List Int} {c : List Int} (h1 : first ≤ i) (h2 : i < n) (h : (combs n k (i + 1) (s ++ [(i : Int)]))[j]? = some c) : (combs n (k + 1) first s)[offC n k first s i + j]? = some c := by
 have hj := (List.getElem?_eq_some_iff.1 h).1
 rw [comb_split h1 h2]
 unfold offC
 rw [List.getElem?_append_right (by omega), Nat.add_sub_cancel_left, List.getElem?_append_left hj]
 exact h
def RowV (W : World) (v : Value) (s : List Int) : Prop := (s = [] ∧ v = .slice none 0 0) ∨ s ≠ [] ∧ ∃ B g c, v = .slice (some ⟨g, 0, none⟩) s.length c ∧ IntsO W B v s
theorem RowV.owned {W : World} {v : Value} {s : List Int} (h : RowV W v s) : ∃ B, IntsO W B v s := by
 rcases h with ⟨rfl, rfl⟩ | ⟨_, B, _, _, _, h⟩
 ·exact ⟨0, IntsO.nil _ _⟩
 ·exact ⟨B, h⟩
end Go.Proofs.YtjglidlmpjmjeaaGreatDoor

/- Package core's iterator over the selections: the recursion. -/
namespace Go.Proofs.YtjglidlmpjmjeaaGreatDoor
open Go.RowKit Go.Shelf

theorem at_dst9 {P : Program} {ops : Array Oper} {o : Oper} {a : Act} {w : World} {K : Act → World → Prop} {Q : Exit → Act → World → Prop} {E : Prop} (n : Nat) (_ : o.dst = some n)
  (h : if Region.wanted o (yielded ops a.tmps) = true then Oper.wp P o a w K Q else E) : if Region.wanted o (yielded ops a.tmps) = true then Oper.wp P o a w K Q else E := h
theorem new_cell (w : World) (x : Value) (t : TypeId) : ∀ j u, [x][j]? = some u → (w.alloc (.cells #[x] t)).cell? ((⟨w.heap.size, 0, none⟩ : Addr).add j) = some u := fun j u h => by
 cases j with
 | zero =>
  simp at h
  subst h
  exact (Blk.new w t #[x]).cell 0
 | succ j => simp at h
set_option maxHeartbeats 800000 in
set_option maxRecDepth 100000 in
theorem selGrow_step (Yb Nb Gb l n : Nat) (hn : n ≤ 12) (J : Nat → World → Prop) (Jx : World → Prop) (hJ : ∀ i A B, J i A → Ext A B → J i B) (k first : Nat) (s : List Int) (lv : Value) (W : World) (i0 : Nat) (z : Int)
  (hE : SelEnv W Yb Nb Gb l n) (hs : RowV W lv s) (hB : Behind s first) (hfn : first ≤ n) (hk : s.length + (k + 1) ≤ 12) (hz : z = (s.length : Int) + (k + 1)) (h0 : J i0 W)
  (hcl0 : ∀ (i : Nat) (V : World) (v : Value), first ≤ i → i < n → KT W V → J (i0 + offC n k first s i) V → RowV V v (s ++ [(i : Int)]) →
   Calls Tryz.prog 62 #[v, .int .i64 z, .pointer (some ⟨Yb, 0, none⟩), .pointer (some ⟨Nb, 0, none⟩), .pointer (some ⟨Gb, 0, none⟩)] V (SelOut J Jx (i0 + offC n k first s i + (combs n k (i + 1) (s ++ [(i : Int)])).length) V)) :
  Calls Tryz.prog 62 #[lv, .int .i64 z, .pointer (some ⟨Yb, 0, none⟩), .pointer (some ⟨Nb, 0, none⟩), .pointer (some ⟨Gb, 0, none⟩)] W (SelOut J Jx (i0 + (combs n (k + 1) first s).length) W) := by
 obtain ⟨j0, hj0, jz0, jz1, jz2⟩ := info_parts int_info
 have hE' := Lib.hid hE
 have hJ' := Lib.hid hJ
 have h0' := Lib.hid h0
 have hcl := Lib.hid hcl0
 clear hE hJ h0 hcl0
 rcases hs with ⟨rfl, rfl⟩ | ⟨hne, B, g, c, rfl, hO⟩
 ·obtain ⟨_, rfl⟩ | ⟨s', m, e, _⟩ := hB
  ·have d1 : ((0 : Int) == z) = false := by rw [beq_eq_false_iff_ne]; simp at hz; omega
   have hfi : Hid (((0 : Nat) : Int) = 0) := rfl
   have hol : Hid (∀ V, KT W V → ∀ U, Ext V U → ∀ b, (none : Option Addr) = some b → ∀ j u, (([] : List Int).map (Value.int .i64))[j]? = some u → U.cell? (b.add j) = some u) := fun _ _ _ _ b hb => (by cases hb)
   clear hz
   go_enter Tryz.func62, Tryz.ntmps62
   go_wp2_with fail
   have hgf : ∀ (y : Array Value) (V : World), (callFunc 62 y).run Tryz.prog V = .ok (.enter 62 y) V := fun _ _ => by kernel_rfl
   go_loopw [9] (fun vi wr => ∃ i : Nat, 0 ≤ i ∧ i ≤ n ∧ vi = .int .i64 i ∧ Hid (J (i0 + offC n k 0 [] i) wr) ∧ Hid (KT W wr)) (fun vi _ => n - (intOf vi).toNat)
   case atStart => exact ⟨0, Nat.le_refl _, hfn, by rw [hfi.out] <;> go_num, Lib.hid (by rw [offC_zero]; exact h0'.out), Lib.hid (KT.refl _)⟩
   case round =>
    obtain ⟨i, hi1, hi2, rfl, hJi, hKi⟩ := hrel
    have hEi := Lib.hid (hE'.out.kt hKi.out)
    have n1 : wr.cell? ⟨Nb, 0, none⟩ = some (.int .i64 (n : Int)) := hEi.out.nb.cell 0
    have m1 := hEi.out.nb.lt
    by_cases h1 : i < n
    ·have b1 : wr.cell? ⟨Gb, 0, none⟩ = some (.func (.func 62) #[] #[.pointer (some ⟨Yb, 0, none⟩), .pointer (some ⟨Nb, 0, none⟩), .pointer (some ⟨Gb, 0, none⟩)]) := hEi.out.gb.cell 0
     have m2 := hEi.out.gb.lt
     have hold := hol.out wr hKi.out
     have hold' := Lib.hid hold
     have hi12 : i ≤ 12 := by omega
     clear hold
     go_upto_region 9 with (fail)
     have z1 := After.cell b1
     clear b1 n1
     (refine wp_region_held [] [0, 1, 2, 3, 4, 5, 6, 7, 10, 8, 9] [11, 12] (AppCon 9 (0 + 1) wr.heap.size ((([] : List Int).map (Value.int .i64)) ++ [.int .i64 (i : Int)])) (by kernel_rfl) (by kernel_rfl) ?_; simp only [pickL]; with_reducible refine wpQuiet_nil ?_)
     (refine held_quiet [0, 1, 2, 3, 4, 5, 6, 7, 10] [8, 9] (by kernel_rfl) (by kernel_rfl) ?_; simp only [pickL, List.drop]; (repeat (go_big_quiet_step (fail))); with_reducible refine wpQuiet_nil ?_)
     (refine held_made 8 [9] rfl (by kernel_rfl) (fun g => .slice (some ⟨g, 0, none⟩) 1 1) (.cells #[.int .i64 (i : Int)] 3) (fun W => by kernel_rfl) (fun g g2 e => by cases e; rfl) (fun g => rfl) ?_)
     intro gs
     simp only [Act.put, List.setIfInBounds_toArray, List.set_cons_succ, List.set_cons_zero]
     refine held_grow 9 [] rfl (by kernel_rfl) rfl ?_ ?_ ?_
     ·exact fun A A' v e hh hq => let ⟨g, c, h1, h2⟩ := hh hq; ⟨g, c, h1, owns_ext h2 e⟩
     ·intro V hV hD
      have b7 : Blk V gs 3 #[.int .i64 (i : Int)] := ((hD 8 (dep_of 12 9 8 (by kernel_rfl))).2 rfl).1
      exact run_append_con (.tmp 40) (.tmp 42) rfl none 0 (([] : List Int).map (Value.int .i64)) rfl (fun _ => rfl) (by simp ) (hold'.out _ hV) ⟨gs, 0, none⟩ (i : Int) rfl (b7.cell 0) (by omega) 9 wr.heap.size hV.size
     rintro v ⟨Y, hY, hCv⟩
     obtain ⟨g4, c4, rfl, h00⟩ := hCv rfl
     clear hCv h00 hY Y
     simp only [Act.put, List.setIfInBounds_toArray, List.set_cons_succ, List.set_cons_zero]
     intro V hxv hfc ht Q0 hQ0
     have hown4' : Hid (V.ownsRow wr.heap.size 3 1 (.slice (some ⟨g4, 0, none⟩) (0 + 1) c4) (0 + 1) ((([] : List Int).map (Value.int .i64)) ++ [.int .i64 (i : Int)])) := by
      obtain ⟨_, _, e9, h9⟩ := (hfc 9).2 rfl rfl
      cases e9
      exact h9
     have hx4 := Lib.hid hxv
     simp only [pickL, List.drop]
     clear hfc ht z1 hxv
     go_wp2_with (go_at_call 62; refine (hcl.out i V (.slice (some ⟨g4, 0, none⟩) (0 + 1) c4) hi1 h1 (hKi.out.trans (KT.of_ext hx4.out)) (hJ'.out _ _ _ hJi.out hx4.out) (Or.inr ⟨by simp, wr.heap.size, g4, c4, by simp , by unfold IntsO; simpa  using hown4'.out⟩)).mono ?_; rintro e w5 ⟨b, rfl, hb1, hb2⟩)
     all_goals
      rename_i hnb
      have hb1' := Lib.hid hb1
      have hb2' := Lib.hid hb2
      have hKf := Lib.hid (hKi.out.trans (KT.of_ext hx4.out))
      clear hb1 hb2 hown4' hx4 hJi hold'
      cases b with
      | true =>
       first
       | exact absurd hnb (by decide)
       |skip
        have hJn : Hid (J (i0 + offC n k 0 [] (i + 1)) w5) := Lib.hid (by rw [offC_succ hi1, ← Nat.add_assoc]; exact (hb1'.out rfl).1)
        have hKn := Lib.hid (hKf.out.trans (hb1'.out rfl).2)
        clear hb1' hb2' hKf hnb
        try simp only [Bool.not_true]
        go_wp2
        go_roundw
        case rel => first | exact ⟨i + 1, by omega, h1, by go_num, hJn, hKn⟩ | ((repeat apply Exists.intro); exact ⟨⟨i + 1, by omega, h1, by go_num, hJn, hKn⟩, rfl⟩)
        case measure => simp [intOf]; omega
      | false =>
       first
       | exact absurd hnb (by decide)
       |skip
        have hJf := Lib.hid (hb2'.out rfl)
        clear hb1' hb2' hKf hnb
        try simp only [Bool.not_false]
        go_wp2
        go_ret
        exact ⟨false, rfl, fun h => (by cases h), fun _ => hJf.out⟩
    ·obtain rfl : i = n := by omega
     have hfin : Hid (J (i0 + (combs i (k + 1) 0 []).length) wr) := Lib.hid (by rw [← offC_end]; exact hJi.out)
     clear hJi
     go_wp2
     go_ret
     exact ⟨true, rfl, fun _ => ⟨hfin.out, hKi.out⟩, fun h => (by cases h)⟩
  ·simp at e
 ·rcases hB with ⟨rfl, _⟩ | ⟨s', m, e, rfl⟩
  ·exact absurd rfl hne
  have hsl : s.length = s'.length + 1 := by rw [e]; simp
  have hq1 : 1 ≤ s.length := by omega
  have d1 : ((s.length : Int) == z) = false := by rw [beq_eq_false_iff_ne]; omega
  have d2 : decide (0 < s.length) = true := decide_eq_true (by omega)
  have hfi : Hid (((m + 1 : Nat) : Int) = (m : Int) + 1) := by show _ = _; omega
  have hm12 : m ≤ 12 := by omega
  have hol : Hid (∀ V, KT W V → ∀ U, Ext V U → ∀ b, some (⟨g, 0, none⟩ : Addr) = some b → ∀ j u, (s.map (Value.int .i64))[j]? = some u → U.cell? (b.add j) = some u) := fun V hV U hU b hb j u hj => by
   cases hb
   rw [List.getElem?_map] at hj
   obtain ⟨y, hy, rfl⟩ := Option.map_eq_some_iff.1 hj
   have := ints_cells ((IntsO.read (hV.owns hO)).ext hU) j y hy
   rw [show (⟨g, 0, none⟩ : Addr).add j = ⟨g, 0 + j, none⟩ by unfold Addr.add; split <;> simp_all]
   exact this
  have c5 : W.cell? ⟨g, s.length - 1, none⟩ = some (.int .i64 (m : Int)) := by
   have := ints_cells (IntsO.read hO) (s.length - 1) m (by rw [e]; simp)
   rwa [Nat.zero_add] at this
  have c6 : W.cell? ⟨g, ((s.length : Int) - 1).toNat, none⟩ = some (.int .i64 (m : Int)) := by rw [show ((s.length : Int) - 1).toNat = s.length - 1 by omega]; exact c5
  have l5 := (World.ownsRow.lt hO g rfl).2
  have hcap : s.length ≤ c ∧ c ≤ 9223372036854775807 := by
   obtain ⟨a', c', e', h1, h2, _⟩ := (IntsO.read hO).open
   cases e'
   exact ⟨h1, h2⟩
  obtain ⟨hcap1, hcap2⟩ := hcap
  clear hz e hsl hO
  go_enter Tryz.func62, Tryz.ntmps62
  go_wp2_with fail
  have hgf : ∀ (y : Array Value) (V : World), (callFunc 62 y).run Tryz.prog V = .ok (.enter 62 y) V := fun _ _ => by kernel_rfl
  go_loopw [9] (fun vi wr => ∃ i : Nat, (m + 1) ≤ i ∧ i ≤ n ∧ vi = .int .i64 i ∧ Hid (J (i0 + offC n k (m + 1) s i) wr) ∧ Hid (KT W wr)) (fun vi _ => n - (intOf vi).toNat)
  case atStart => exact ⟨(m + 1), Nat.le_refl _, hfn, by rw [hfi.out] <;> go_num, Lib.hid (by rw [offC_zero]; exact h0'.out), Lib.hid (KT.refl _)⟩
  case round =>
   obtain ⟨i, hi1, hi2, rfl, hJi, hKi⟩ := hrel
   have hEi := Lib.hid (hE'.out.kt hKi.out)
   have n1 : wr.cell? ⟨Nb, 0, none⟩ = some (.int .i64 (n : Int)) := hEi.out.nb.cell 0
   have m1 := hEi.out.nb.lt
   by_cases h1 : i < n
   ·have b1 : wr.cell? ⟨Gb, 0, none⟩ = some (.func (.func 62) #[] #[.pointer (some ⟨Yb, 0, none⟩), .pointer (some ⟨Nb, 0, none⟩), .pointer (some ⟨Gb, 0, none⟩)]) := hEi.out.gb.cell 0
    have m2 := hEi.out.gb.lt
    have hold := hol.out wr hKi.out
    have hold' := Lib.hid hold
    have hi12 : i ≤ 12 := by omega
    clear hold
    go_upto_region 9 with (fail)
    have z1 := After.cell b1
    clear b1 n1
    (refine wp_region_held [] [0, 1, 2, 3, 4, 5, 6, 7, 10, 8, 9] [11, 12] (AppCon 9 (s.length + 1) wr.heap.size (((s : List Int).map (Value.int .i64)) ++ [.int .i64 (i : Int)])) (by kernel_rfl) (by kernel_rfl) ?_; simp only [pickL]; with_reducible refine wpQuiet_nil ?_)
    (refine held_quiet [0, 1, 2, 3, 4, 5, 6, 7, 10] [8, 9] (by kernel_rfl) (by kernel_rfl) ?_; simp only [pickL, List.drop]; (repeat (go_big_quiet_step (fail))); with_reducible refine wpQuiet_nil ?_)
    (refine held_made 8 [9] rfl (by kernel_rfl) (fun g => .slice (some ⟨g, 0, none⟩) 1 1) (.cells #[.int .i64 (i : Int)] 3) (fun W => by kernel_rfl) (fun g g2 e => by cases e; rfl) (fun g => rfl) ?_)
    intro gs
    simp only [Act.put, List.setIfInBounds_toArray, List.set_cons_succ, List.set_cons_zero]
    refine held_grow 9 [] rfl (by kernel_rfl) rfl ?_ ?_ ?_
    ·exact fun A A' v e hh hq => let ⟨g, c, h1, h2⟩ := hh hq; ⟨g, c, h1, owns_ext h2 e⟩
    ·intro V hV hD
     have b7 : Blk V gs 3 #[.int .i64 (i : Int)] := ((hD 8 (dep_of 12 9 8 (by kernel_rfl))).2 rfl).1
     exact run_append_con (.tmp 40) (.tmp 42) rfl (some ⟨g, 0, none⟩) s.length ((s : List Int).map (Value.int .i64)) rfl (fun h => by cases h) (by simp ) (hold'.out _ hV) ⟨gs, 0, none⟩ (i : Int) rfl (b7.cell 0) (by omega) 9 wr.heap.size hV.size
    rintro v ⟨Y, hY, hCv⟩
    obtain ⟨g4, c4, rfl, h00⟩ := hCv rfl
    clear hCv h00 hY Y
    simp only [Act.put, List.setIfInBounds_toArray, List.set_cons_succ, List.set_cons_zero]
    intro V hxv hfc ht Q0 hQ0
    have hown4' : Hid (V.ownsRow wr.heap.size 3 1 (.slice (some ⟨g4, 0, none⟩) (s.length + 1) c4) (s.length + 1) (((s : List Int).map (Value.int .i64)) ++ [.int .i64 (i : Int)])) := by
     obtain ⟨_, _, e9, h9⟩ := (hfc 9).2 rfl rfl
     cases e9
     exact h9
    have hx4 := Lib.hid hxv
    simp only [pickL, List.drop]
    clear hfc ht z1 hxv
    go_wp2_with (go_at_call 62; refine (hcl.out i V (.slice (some ⟨g4, 0, none⟩) (s.length + 1) c4) hi1 h1 (hKi.out.trans (KT.of_ext hx4.out)) (hJ'.out _ _ _ hJi.out hx4.out) (Or.inr ⟨by simp, wr.heap.size, g4, c4, by simp , by unfold IntsO; simpa  using hown4'.out⟩)).mono ?_; rintro e w5 ⟨b, rfl, hb1, hb2⟩)
    all_goals
     rename_i hnb
     have hb1' := Lib.hid hb1
     have hb2' := Lib.hid hb2
     have hKf := Lib.hid (hKi.out.trans (KT.of_ext hx4.out))
     clear hb1 hb2 hown4' hx4 hJi hold'
     cases b with
     | true =>
      first
      | exact absurd hnb (by decide)
      |skip
       have hJn : Hid (J (i0 + offC n k (m + 1) s (i + 1)) w5) := Lib.hid (by rw [offC_succ hi1, ← Nat.add_assoc]; exact (hb1'.out rfl).1)
       have hKn := Lib.hid (hKf.out.trans (hb1'.out rfl).2)
       clear hb1' hb2' hKf hnb
       try simp only [Bool.not_true]
       go_wp2
       go_roundw
       case rel => first | exact ⟨i + 1, by omega, h1, by go_num, hJn, hKn⟩ | ((repeat apply Exists.intro); exact ⟨⟨i + 1, by omega, h1, by go_num, hJn, hKn⟩, rfl⟩)
       case measure => simp [intOf]; omega
     | false =>
      first
      | exact absurd hnb (by decide)
      |skip
       have hJf := Lib.hid (hb2'.out rfl)
       clear hb1' hb2' hKf hnb
       try simp only [Bool.not_false]
       go_wp2
       go_ret
       exact ⟨false, rfl, fun h => (by cases h), fun _ => hJf.out⟩
   ·obtain rfl : i = n := by omega
    have hfin : Hid (J (i0 + (combs i (k + 1) (m + 1) s).length) wr) := Lib.hid (by rw [← offC_end]; exact hJi.out)
    clear hJi
    go_wp2
    go_ret
    exact ⟨true, rfl, fun _ => ⟨hfin.out, hKi.out⟩, fun h => (by cases h)⟩
end Go.Proofs.YtjglidlmpjmjeaaGreatDoor

/- Package core's iterator over the selections, whole. -/
namespace Go.Proofs.YtjglidlmpjmjeaaGreatDoor
open Go.RowKit Go.Shelf
attribute [local go_sem] Oper.semAt_some run_store_func

theorem selGrow_calls (Yb Nb Gb l n : Nat) (hn : n ≤ 12) (J : Nat → World → Prop) (Jx : World → Prop) (hJ : ∀ i A B, J i A → Ext A B → J i B) : ∀ (k first : Nat) (s : List Int) (lv : Value) (W : World) (i0 : Nat) (z : Int),
  SelEnv W Yb Nb Gb l n → RowV W lv s → Behind s first → first ≤ n → s.length + k ≤ 12 → z = (s.length : Int) + k → J i0 W →
  (∀ j c W1 v, (combs n k first s)[j]? = some c → J (i0 + j) W1 → (∃ B, IntsO W1 B v c) → YieldAt Fence.wide 3 Tryz.prog l #[v] W1 (SelOut J Jx (i0 + j + 1) W1)) →
  Calls Tryz.prog 62 #[lv, .int .i64 z, .pointer (some ⟨Yb, 0, none⟩), .pointer (some ⟨Nb, 0, none⟩), .pointer (some ⟨Gb, 0, none⟩)] W (SelOut J Jx (i0 + (combs n k first s).length) W) := by
 intro k
 induction k with
 | zero =>
  intro first s lv W i0 z hE hs hB hfn hk hz h0 hY
  obtain ⟨B, hO⟩ := hs.owned
  have hz' : z = (s.length : Int) := by omega
  subst hz'
  exact selGrow_end Yb Nb Gb l n J Jx hJ s lv W B i0 hE hO (by omega) h0 fun W1 v h1 h2 => hY 0 s W1 v rfl h1 h2
 | succ k ih =>
  intro first s lv W i0 z hE hs hB hfn hk hz h0 hY
  refine selGrow_step Yb Nb Gb l n hn J Jx hJ k first s lv W i0 z hE hs hB hfn hk (by omega) h0 fun i V v h1 h2 hkt hJV hrow => ?_
  refine ih (i + 1) (s ++ [(i : Int)]) v V (i0 + offC n k first s i) z (hE.kt hkt) hrow (Or.inr ⟨s, i, rfl, rfl⟩) (by omega) (by simp; omega) (by simp; omega) hJV fun j c W1 v hj hJ1 hv => ?_
  have e9 : i0 + offC n k first s i + j = i0 + (offC n k first s i + j) := Nat.add_assoc _ _ _
  rw [e9] at hJ1 ⊢
  exact hY (offC n k first s i + j) c W1 v (offC_at h1 h2 hj) hJ1 hv

def offS (n i : Nat) : Nat := ((List.range i).flatMap fun k => combs n k 0 []).length
theorem offS_succ (n i : Nat) : offS n (i + 1) = offS n i + (combs n i 0 []).length := by
 unfold offS
 rw [List.range_succ, List.flatMap_append, List.length_append]
 simp
theorem offS_at {n i j : Nat} {c : List Int} (h : i ≤ n) (hj : (combs n i 0 [])[j]? = some c) : (sels n)[offS n i + j]? = some c := by
 have e : List.range (n + 1) = List.range i ++ (i :: List.range' (i + 1) (n - i)) := by
  have := List.range'_append_1 (s := 0) (m := i) (n := n + 1 - i)
  rw [Nat.zero_add, show i + (n + 1 - i) = n + 1 by omega, show n + 1 - i = (n - i) + 1 by omega, List.range'_succ] at this
  rw [List.range_eq_range', List.range_eq_range', ← this]
 have hjl := (List.getElem?_eq_some_iff.1 hj).1
 unfold sels
 rw [e, List.flatMap_append, List.flatMap_cons]
 unfold offS
 rw [List.getElem?_append_right (by omega), Nat.add_sub_cancel_left, List.getElem?_append_left hjl]
 exact hj
theorem offS_end (n : Nat) : offS n (n + 1) = (sels n).length := rfl
theorem yieldAt_or {m : Nat} {P : Program} {l : Nat} {args : Array Value} {W : World} {N : Nat} {J : Nat → World → Prop} {Jx : World → Prop}
  (h : YieldAt Fence.wide m P l args W fun e W' => (e = .returned (.bool true) ∧ J N W' ∧ KT W W') ∨ (e = .returned (.bool false) ∧ Jx W')) : YieldAt Fence.wide m P l args W (SelOut J Jx N W) :=
 let ⟨fn, t, a, b, h1, h2⟩ := h
 ⟨fn, t, a, b, h1, h2.mono fun e w' r => by
  rcases r with ⟨h3, h4, h5⟩ | ⟨h3, h4⟩
  ·exact ⟨true, h3, fun _ => ⟨h4, h5⟩, fun h => (by cases h)⟩
  ·exact ⟨false, h3, fun h => (by cases h), fun _ => h4⟩⟩
set_option maxHeartbeats 3200000 in
set_option maxRecDepth 100000 in
theorem selections_iter (Nb n : Nat) (hn : n ≤ 12) : IterV 61 #[.pointer (some ⟨Nb, 0, none⟩)] (sels n).length (fun i => (sels n)[i]?.getD []) (fun W => Blk W Nb 3 #[.int .i64 (n : Int)]) := by
 intro l w J Jx hC hJ h0 hY
 have hC' := Lib.hid hC
 have hJ' := Lib.hid hJ
 have h0' := Lib.hid h0
 have hY' := Lib.hid hY
 have n0 : w.cell? ⟨Nb, 0, none⟩ = some (.int .i64 (n : Int)) := hC.cell 0
 have nl := hC.lt
 clear hC hJ h0 hY
 refine callsIn_wide.2 ?_
 have ea : #[Value.func (.yield l) #[] #[]] ++ #[Value.pointer (some ⟨Nb, 0, none⟩)] = #[.func (.yield l) #[] #[], .pointer (some ⟨Nb, 0, none⟩)] := rfl
 rw [ea]
 clear ea
 go_enter Tryz.func61, Tryz.ntmps61
 go_upto_region 3 with (fail)
 refine wp_abs (S := fun W => Hid (SelEnv W w.heap.size Nb (w.heap.size + 1) l n) ∧ Hid (Ext w W)) ?_ ?_
 ·have hb1 : Blk (w.alloc (.cells #[.func (.yield l) #[] #[]] 67)) w.heap.size 67 #[.func (.yield l) #[] #[]] := Blk.new _ _ _
  refine ⟨Lib.hid ⟨?_, ?_, ?_⟩, Lib.hid (by with_reducible repeat' (first | exact Ext.refl _ | assumption | refine Ext.drewN ?_ _ | refine Ext.drew ?_ | refine Ext.alloc ?_ _ | refine Ext.trans ?_ (by with_reducible assumption)))⟩
  ·exact hb1.alloc _
  ·exact ((hC'.out.alloc _).alloc _)
  ·exact blk_new' (by simp) rfl
 rintro W1 ⟨hE, hx⟩
 clear n0 nl
 have n1 : W1.cell? ⟨Nb, 0, none⟩ = some (.int .i64 (n : Int)) := hE.out.nb.cell 0
 have nl1 := hE.out.nb.lt
 have hgf : ∀ (y : Array Value) (V : World), (callFunc 62 y).run Tryz.prog V = .ok (.enter 62 y) V := fun _ _ => by kernel_rfl
 have hJ1 := Lib.hid (hJ'.out 0 _ _ h0'.out hx.out)
 go_wp2_with fail
 clear n1 nl1
 go_loopw [8] (fun vi wr => ∃ i : Nat, i ≤ n + 1 ∧ vi = .int .i64 i ∧ Hid (J (offS n i) wr) ∧ Hid (SelEnv wr w.heap.size Nb (w.heap.size + 1) l n)) (fun vi _ => n + 1 - (intOf vi).toNat)
 case atStart => exact ⟨0, by omega, rfl, hJ1, hE⟩
 case round =>
  clear hJ1 hE hx
  obtain ⟨i, hi, rfl, hJi, hE⟩ := hrel
  by_cases h1 : i < n + 1
  ·have hcall := selGrow_calls w.heap.size Nb (w.heap.size + 1) l n hn J Jx hJ'.out i 0 [] (.slice none 0 0) wr (offS n i) (i : Int) hE.out (Or.inl ⟨rfl, rfl⟩) (Or.inl ⟨rfl, rfl⟩) (by omega) (by simp; omega) (by simp) hJi.out
    (fun j c W1 v hj hJ1 hv => by
     have hat := offS_at (by omega) hj
     have hlt := (List.getElem?_eq_some_iff.1 hat).1
     refine yieldAt_or (hY'.out (offS n i + j) W1 v hlt hJ1 ?_)
     rw [hat]
     exact hv)
   rw [← offS_succ] at hcall
   have hcall' := Lib.hid hcall
   have g1 : wr.cell? ⟨w.heap.size + 1, 0, none⟩ = some (.func (.func 62) #[] #[.pointer (some ⟨w.heap.size, 0, none⟩), .pointer (some ⟨Nb, 0, none⟩), .pointer (some ⟨w.heap.size + 1, 0, none⟩)]) := hE.out.gb.cell 0
   have gl := hE.out.gb.lt
   clear hcall
   go_wp2_with fail
   refine hcall'.out.mono ?_
   rintro e w5 ⟨b, rfl, hb1, hb2⟩
   have hb1' := Lib.hid hb1
   have hb2' := Lib.hid hb2
   clear hb1 hb2 g1 gl hcall'
   cases b with
   | true =>
    have hJn := Lib.hid (hb1'.out rfl).1
    have hEn := Lib.hid (hE.out.kt (hb1'.out rfl).2)
    clear hb1' hb2' hJi hE
    go_wp2
    go_roundw
    case rel => first | exact ⟨i + 1, by omega, by go_num, hJn, hEn⟩ | ((repeat apply Exists.intro); exact ⟨⟨i + 1, by omega, by go_num, hJn, hEn⟩, rfl⟩)
    case measure => simp [intOf]; omega
   | false =>
    have hJf := Lib.hid (hb2'.out rfl)
    clear hb1' hb2' hJi hE
    go_wp2
    refine bodyPost_ret (results_none rfl _ _ _) rfl ?_
    exact ⟨⟨_, rfl⟩, .inr hJf.out⟩
  ·obtain rfl : i = n + 1 := by omega
   have hfin : Hid (J (sels n).length wr) := Lib.hid (by rw [← offS_end]; exact hJi.out)
   clear hJi hE
   go_wp2
   go_end0
   exact ⟨⟨_, rfl⟩, .inl hfin.out⟩
theorem selections_calls (n : Nat) (w : World) :
  Calls Tryz.prog 33 #[.int .i64 (n : Int)] w fun e w' => e = .returned (.func (.func 61) #[] #[.pointer (some ⟨w.heap.size, 0, none⟩)]) ∧ Ext w w' ∧ Blk w' w.heap.size 3 #[.int .i64 (n : Int)] := by
 go_enter Tryz.func33, Tryz.ntmps33
 go_wp2
 go_ret
 exact ⟨rfl, (by with_reducible repeat' (first | exact Ext.refl _ | assumption | refine Ext.drewN ?_ _ | refine Ext.drew ?_ | refine Ext.alloc ?_ _ | refine Ext.trans ?_ (by with_reducible assumption))), blk_new' rfl rfl⟩
end Go.Proofs.YtjglidlmpjmjeaaGreatDoor

/- Rows of integers; the functions that package core's All hands to the library. -/
namespace Go.Proofs.YtjglidlmpjmjeaaGreatDoor
open Go.RowKit Go.Shelf

/-! ### slices of slices of integers -/
def RowsI (w : World) (v : Value) (ls : List (List Int)) : Prop :=
 ∃ R : Nat → Value, Sl w 1 v ls.length (fun i _ => R i) ∧ ∀ i, i < ls.length → Ints w (R i) (ls[i]?.getD [])
theorem RowsI.ext {w w' : World} {v : Value} {ls : List (List Int)} (h : RowsI w v ls) (e : Ext w w') : RowsI w' v ls :=
 let ⟨R, h1, h2⟩ := h
 ⟨R, Sl.ext h1 e, fun i hi => (h2 i hi).ext e⟩
theorem RowsI.form {w : World} {v : Value} {ls : List (List Int)} (h : RowsI w v ls) : ∃ a c, v = .slice a ls.length c := let ⟨_, ⟨a, c, hv, _⟩, _⟩ := h; ⟨a, c, hv⟩
theorem RowsI.nil (w : World) : RowsI w (.slice none 0 0) [] := ⟨fun _ => undef, ⟨none, 0, rfl, Nat.le_refl _, by decide, fun h => by simp at h⟩, fun i hi => by simp at hi⟩
def RowsIAt (a : Option Addr) (w : World) (ls : List (List Int)) : Prop :=
 ∀ i, i < ls.length → ∀ W, Ext w W → ∃ b off r ra rc, a = some ⟨b, off, none⟩ ∧ b < W.heap.size ∧ Hid (ls[i]? = some r) ∧ W.cell? ⟨b, off + i, none⟩ = some (.slice ra r.length rc) ∧ Ints W (.slice ra r.length rc) r
theorem RowsI.open {w : World} {v : Value} {ls : List (List Int)} (h : RowsI w v ls) : ∃ a c, v = .slice a ls.length c ∧ ls.length ≤ c ∧ c ≤ 9223372036854775807 ∧ RowsIAt a w ls := by
 obtain ⟨R, h1, h2⟩ := h
 obtain ⟨a, c, hv, hn, hc, h⟩ := Sl.open h1
 refine ⟨a, c, hv, hn, hc, fun i hi W e => ?_⟩
 obtain ⟨b, off, ha, hb, h⟩ := h i hi
 have hi2 := (h2 i hi).ext e
 have ex : ls[i]? = some ls[i] := by simp [hi]
 simp only [ex, Option.getD_some] at hi2
 obtain ⟨ra, rc, hR, _⟩ := Ints.open hi2
 refine ⟨b, off, ls[i], ra, rc, ha, Nat.lt_of_lt_of_le hb e.size, ex, ?_, by rw [← hR]; exact hi2⟩
 have := h W e 0 (by omega)
 rw [← hR]
 simpa using this
def KeptS (W : World) (xs : List Value) (ls : List (List Int)) : Prop :=
 xs.length = ls.length ∧ ∀ (j : Nat) (st : List Int), ls[j]? = some st → ∃ v B, xs[j]? = some v ∧ IntsO W B v st
theorem KeptS.kt {W W' : World} {xs : List Value} {ls : List (List Int)} (h : KeptS W xs ls) (k : KT W W') : KeptS W' xs ls :=
 ⟨h.1, fun j st hj => let ⟨v, B, a, b⟩ := h.2 j st hj; ⟨v, B, a, k.owns b⟩⟩
theorem KeptS.keepX {W W' : World} {X : Nat → Prop} {xs : List Value} {ls : List (List Int)} (h : KeptS W xs ls) (k : Keep X W W') (hX : ∀ g cs, X g → ¬ Blk W g 3 cs) : KeptS W' xs ls :=
 ⟨h.1, fun j st hj => let ⟨v, B, a, b⟩ := h.2 j st hj; ⟨v, B, a, k.owns b fun g hg hx => let ⟨cs, hc⟩ := owns_block b hg; hX g cs hx hc⟩⟩
theorem KeptS.push {W : World} {B : Nat} {v : Value} {xs : List Value} {ls : List (List Int)} {st : List Int} (h : KeptS W xs ls) (hS : IntsO W B v st) : KeptS W (xs ++ [v]) (ls ++ [st]) := by
 refine ⟨by simp [h.1], fun j s hj => ?_⟩
 by_cases e : j < ls.length
 ·rw [List.getElem?_append_left e] at hj
  obtain ⟨v', B', a, b⟩ := h.2 j s hj
  exact ⟨v', B', by rw [List.getElem?_append_left (by rw [h.1]; exact e)]; exact a, b⟩
 ·rw [List.getElem?_append_right (by omega)] at hj
  have e2 : j - ls.length = 0 := by
   cases hk : j - ls.length with
   | zero => rfl
   | succ k => rw [hk] at hj; simp at hj
  rw [e2] at hj
  obtain rfl : s = st := by simpa using hj.symm
  refine ⟨v, B, ?_, hS⟩
  rw [List.getElem?_append_right (by rw [h.1]; omega), h.1, e2]
  rfl
theorem KeptS.read {W : World} {B : Nat} {xs : List Value} {ls : List (List Int)} {v : Value} (h : KeptS W xs ls) (ho : W.ownsRow B 23 1 v ls.length xs) : RowsI W v ls := by
 refine ⟨fun i => xs[i]?.getD undef, sl_of_owns ho fun i hi j hj => ?_, fun i hi => ?_⟩
 ·obtain rfl : j = 0 := by omega
  rw [Nat.mul_one, Nat.add_zero]
  have : i < xs.length := by rw [h.1]; exact hi
  simp [this]
 ·have ex : ls[i]? = some ls[i] := by simp [hi]
  obtain ⟨v, B, a, c⟩ := h.2 i _ ex
  simp only [a, ex, Option.getD_some]
  exact c.read

/-! ### slices.IndexFunc, ContainsFunc at rows, with a function that has captured one variable -/
set_option maxHeartbeats 400000 in
theorem indexFunc_rows_calls (va q : Value) (l : List (List Int)) (g : Nat) (hg : ∀ (x : Array Value) (W : World), (callFunc g x).run Tryz.prog W = .ok (.enter g x) W) (p : List Int → Bool) (w : World) (h : RowsI w va l)
  (hf : ∀ (s : List Int) (v : Value) (W : World), Ext w W → Ints W v s → Calls Tryz.prog g #[v, q] W fun e w' => e = .returned (.bool (p s)) ∧ Ext W w') :
  Calls Tryz.prog 66 #[va, .func (.func g) #[] #[q]] w fun e w' => e = .returned (.int .i64 (findI p l)) ∧ Ext w w' := by
 obtain ⟨a, c, rfl, hn, hc, hat⟩ := h.open
 clear h
 have hf' := Lib.hid hf
 have hat' := Lib.hid hat
 clear hf hat
 go_enter Tryz.func66, Tryz.ntmps66
 go_wp2_with fail
 go_loopw [8] (fun vi wr => ∃ i : Nat, i ≤ l.length ∧ vi = .int .i64 i ∧ Ext w wr ∧ Hid (FindAt p l i)) (fun vi _ => l.length - (intOf vi).toNat)
 case atStart => exact ⟨0, by omega, rfl, Ext.refl _, FindAt.zero _ _⟩
 case round =>
  obtain ⟨i, hi, rfl, hx, hF⟩ := hrel
  by_cases h1 : i < l.length
  ·obtain ⟨b1, o1, x, ra, rc, rfl, hb1, ex, g1, gi⟩ := hat'.out i h1 wr hx
   have hcall := Lib.hid (hf'.out x _ wr hx gi)
   clear gi
   cases hp : p x with
   | true =>
    have R := Lib.hid (hF.out.hit ex.out hp)
    have hp' := Lib.hid hp
    clear hp
    go_wp2_with fail
    refine hcall.out.mono ?_
    rintro e w1 ⟨rfl, hx1⟩
    rw [hp'.out]
    go_wp2
    go_ret
    rw [R.out]
    exact ⟨rfl, hx.trans hx1⟩
   | false =>
    have R := Lib.hid (hF.out.miss ex.out hp)
    have hp' := Lib.hid hp
    clear hp
    go_wp2_with fail
    refine hcall.out.mono ?_
    rintro e w1 ⟨rfl, hx1⟩
    rw [hp'.out]
    go_wp2
    go_roundw
    case rel => exact ⟨i + 1, by omega, by go_num, hx.trans hx1, R⟩
    case measure => simp [intOf]; omega
  ·have R := Lib.hid (hF.out.none (by omega))
   go_wp2
   go_ret
   rw [R.out]
   exact ⟨rfl, hx⟩
theorem containsFunc_rows_calls (va q : Value) (l : List (List Int)) (g : Nat) (hg : ∀ (x : Array Value) (W : World), (callFunc g x).run Tryz.prog W = .ok (.enter g x) W) (p : List Int → Bool) (w : World) (h : RowsI w va l)
  (hf : ∀ (s : List Int) (v : Value) (W : World), Ext w W → Ints W v s → Calls Tryz.prog g #[v, q] W fun e w' => e = .returned (.bool (p s)) ∧ Ext W w') :
  Calls Tryz.prog 38 #[va, .func (.func g) #[] #[q]] w fun e w' => e = .returned (.bool (l.any p)) ∧ Ext w w' := by
 have hc := Lib.hid (indexFunc_rows_calls va q l g hg p w h hf)
 have R := Lib.hid (findI_ge p l)
 clear hf h
 go_enter Tryz.func38, Tryz.ntmps38
 go_wp2_with fail
 refine hc.out.mono ?_
 rintro e w1 ⟨rfl, hx1⟩
 go_wp2
 go_ret
 rw [R.out]
 exact ⟨rfl, hx1⟩

/-! ### the functions of All -/
theorem all11_calls (lv : Value) (l : List Int) (i : Int) (lb : Nat) (w : World) (hb : w.cell? ⟨lb, 0, none⟩ = some lv) (hl : Ints w lv l) :
  Calls Tryz.prog 36 #[.int .i64 i, .pointer (some ⟨lb, 0, none⟩)] w fun e w' => e = .returned (.bool (!hasI l i)) ∧ Ext w w' := by
 have hc := Lib.hid (contains_int_calls lv l i w hl)
 obtain ⟨la, lc, rfl⟩ := hl.form
 have hlt := World.block_lt_of_cell? _ _ hb
 clear hl
 go_enter Tryz.func36, Tryz.ntmps36
 go_wp2_with fail
 refine hc.out.mono ?_
 rintro e w1 ⟨rfl, hx1⟩
 go_wp2
 go_ret
 exact ⟨rfl, hx1⟩
theorem all1_calls (lv cv : Value) (l c : List Int) (lb : Nat) (w : World) (hb : w.cell? ⟨lb, 0, none⟩ = some lv) (hl : Ints w lv l) (hc : Ints w cv c) :
  Calls Tryz.prog 34 #[cv, .pointer (some ⟨lb, 0, none⟩)] w fun e w' => e = .returned (.bool (inSelB c l)) ∧ Ext w w' := by
 have hg : ∀ (y : Array Value) (V : World), (callFunc 36 y).run Tryz.prog V = .ok (.enter 36 y) V := fun _ _ => by kernel_rfl
 have h1 := Lib.hid (containsFunc_intC_calls cv (.pointer (some ⟨lb, 0, none⟩)) c 36 hg (fun i => !hasI l i) w hc fun s _ W hW => all11_calls lv l s lb W (hW.cell hb) (hl.ext hW))
 have R : Hid ((!(c.any fun i => !hasI l i)) = inSelB c l) := rfl
 obtain ⟨ca, cc, rfl⟩ := hc.form
 clear hl hc hb
 go_enter Tryz.func34, Tryz.ntmps34
 go_wp2_with fail
 refine h1.out.mono ?_
 rintro e w1 ⟨rfl, hx1⟩
 go_wp2
 go_ret
 rw [R.out]
 exact ⟨rfl, hx1⟩
end Go.Proofs.YtjglidlmpjmjeaaGreatDoor
