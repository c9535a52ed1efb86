import Derived.Test.YtgolicoalldidaaGreatZ11
import Derived.Test.YtgolicoalldidaaGreatZ16
import Derived.StillTailTactics
import Derived.Laws.StructEq
import Derived.Lib.SliceRun
import Derived.Test.YtgolicoalldidaaGreatZ12
import Derived.Test.YtgolicoalldidaaGreatZ05
import Derived.RangeFuncNested
import Derived.RangeFuncCalls
import Derived.Shelf.Abstract
import Derived.TacticsInMore
import Derived.CallsIn
import Derived.OrdersIn
set_option maxHeartbeats 12800000
namespace Go.Proofs.YtgolicoalldidaaGreat
open Go.RowKit
theorem flat_in (l : List InstD) : Sort.flatK inEnc 3 l.toArray = (inCells l).toArray := by
 refine Sort.ext_get! (by simp [inCells_len]) fun t ht => ?_
 have ht' : t < l.length * 3 := by simpa using ht
 rw [Sort.get_flatK _ _ _ _ (by simpa using ht')]
 have hi : t / 3 < l.length := by omega
 obtain ⟨h0, h1, h2⟩ := inCells_at (t / 3) l[t / 3] (List.getElem?_eq_getElem hi)
 have e : l.toArray[t / 3]! = l[t / 3] := by simp [hi]
 rw [e]
 have hm : t % 3 = 0 ∨ t % 3 = 1 ∨ t % 3 = 2 := by omega
 have g : ∀ v, (inCells l)[t]? = some v → (inCells l).toArray[t]! = v := fun v hv => by simp [hv]
 rcases hm with h | h | h
 ·rw [show t / 3 * 3 = t by omega] at h0; rw [g _ h0, h]; rfl
 ·rw [show t / 3 * 3 + 1 = t by omega] at h1; rw [g _ h1, h]; rfl
 ·rw [show t / 3 * 3 + 2 = t by omega] at h2; rw [g _ h2, h]; rfl
theorem holds_in {w : World} {B g c : Nat} {l : List InstD} (h : InstsO w B (.slice (some ⟨g, 0, none⟩) l.length c) l) : Sort.HoldsK inEnc 3 w g 0 l.toArray := by
 unfold Sort.HoldsK
 rw [flat_in]
 intro j hj
 have hj' : j < l.length * 3 := by simpa [inCells_len] using hj
 rw [Nat.zero_add]
 refine ⟨?_, h.frozenAt j⟩
 rw [h.cellAt j hj']
 have hl : j < (inCells l).length := by rw [inCells_len]; exact hj'
 simp [hl]
def orI (a b c : Int) : Int := if a ≠ 0 then a else if b ≠ 0 then b else c
def ordI (x y : InstD) : Int := orI (cmpI x.2.1 y.2.1) (cmpI x.1 y.1) (cmpI x.2.2 y.2.2)
theorem or_calls (g : Nat) (a b c : Int) (w : World) (h : Blk w g 3 #[.int .i64 a, .int .i64 b, .int .i64 c]) :
  Calls Tryz.prog 95 #[.slice (some ⟨g, 0, none⟩) 3 3] w fun e w' => e = .returned (.int .i64 (orI a b c)) ∧ w' = w := by
 have c0 : w.cell? ⟨g, 0, none⟩ = some (.int .i64 a) := h.cell 0
 have c1 : w.cell? ⟨g, 1, none⟩ = some (.int .i64 b) := h.cell 1
 have c2 : w.cell? ⟨g, 2, none⟩ = some (.int .i64 c) := h.cell 2
 have gl := h.lt
 have hcell : ∀ i : Nat, i < 3 → w.cell? ⟨g, i, none⟩ = some (.int .i64 (if i = 0 then a else if i = 1 then b else c)) := fun i hi => by
  obtain rfl | rfl | rfl : i = 0 ∨ i = 1 ∨ i = 2 := by omega
  ·exact c0
  ·exact c1
  ·exact c2
 have hcell' := Lib.hid hcell
 clear h c0 c1 c2 hcell
 go_enter Tryz.func95, Tryz.ntmps95
 go_wp2_with fail
 go_loopw [2, 5, 8] (fun _ _ vi wr => ∃ i : Nat, i ≤ 3 ∧ vi = .int .i64 i ∧ wr = w ∧ Hid (∀ j, j < i → (if j = 0 then a else if j = 1 then b else c) = 0)) (fun _ _ vi _ => 3 - (intOf vi).toNat)
 case atStart => exact ⟨0, by omega, rfl, rfl, Lib.hid fun j hj => by omega⟩
 case round =>
  obtain ⟨i, hi, rfl, hwr, hz⟩ := hrel
  subst hwr
  by_cases h1 : i < 3
  ·have k0 := hcell'.out i h1
   have di : decide ((i : Int) < 3) = true := decide_eq_true (by omega)
   obtain ⟨x, hx⟩ : ∃ x, Hid ((if i = 0 then a else if i = 1 then b else c) = x) := ⟨_, rfl⟩
   rw [hx.out] at k0
   by_cases h0 : x = 0
   ·have d0 : (x != 0) = false := by simp [h0]
    have hz' : Hid (∀ j, j < i + 1 → (if j = 0 then a else if j = 1 then b else c) = 0) := Lib.hid fun j hj => by
     rcases Nat.lt_succ_iff_lt_or_eq.1 hj with h | rfl
     ·exact hz.out j h
     ·rw [hx.out]; exact h0
    clear h0 hx hz
    go_wp2
    go_roundw
    case rel => first | exact ⟨i + 1, by omega, by go_num, rfl, hz'⟩ | exact ⟨i + 1, by omega, by go_num, trivial, hz'⟩
    case measure => simp [intOf]; omega
   ·have d0 : (x != 0) = true := by simp [h0]
    have R : Hid (orI a b c = x) := Lib.hid (by
     unfold orI
     obtain rfl | rfl | rfl : i = 0 ∨ i = 1 ∨ i = 2 := by omega
     ·have := hx.out
      simp at this
      rw [if_pos (by rw [this]; exact h0), this]
     ·have h := hz.out 0 (by omega)
      have := hx.out
      simp at this h
      rw [if_neg (by simp [h]), if_pos (by rw [this]; exact h0), this]
     ·have h := hz.out 0 (by omega)
      have h' := hz.out 1 (by omega)
      have := hx.out
      simp at this h h'
      rw [if_neg (by simp [h]), if_neg (by simp [h']), this])
    clear h0 hx hz
    go_wp2
    go_ret
    rw [R.out]
    exact ⟨rfl, rfl⟩
  ·have R : Hid (orI a b c = 0) := Lib.hid (by
    have h := hz.out 0 (by omega)
    have h' := hz.out 1 (by omega)
    have h2 := hz.out 2 (by omega)
    simp at h h' h2
    unfold orI
    rw [if_neg (by simp [h]), if_neg (by simp [h']), h2])
   have di : decide ((i : Int) < 3) = false := decide_eq_false (by omega)
   clear hz
   go_wp2
   go_ret
   rw [R.out]
   exact ⟨rfl, rfl⟩
set_option maxRecDepth 100000 in
theorem order_calls_in (x y : InstD) (W : World) : Calls Tryz.prog 70 #[.agg (inEnc x).toArray, .agg (inEnc y).toArray] W fun e w' => e = .returned (.int .i64 (ordI x y)) ∧ ∃ q os', w' = Sort.grow (W.drewN q) os' := by
 obtain ⟨xd, xf, xt⟩ := x
 obtain ⟨yd, yf, yt⟩ := y
 have k1 := fun V => compare_calls xf yf V
 have k2 := fun V => compare_calls xd yd V
 have k3 := fun V => compare_calls xt yt V
 show Calls Tryz.prog 70 #[.agg #[.int .i64 xd, .int .i64 xf, .int .i64 xt], .agg #[.int .i64 yd, .int .i64 yf, .int .i64 yt]] W _
 have R : Hid (ordI (xd, xf, xt) (yd, yf, yt) = orI (cmpI xf yf) (cmpI xd yd) (cmpI xt yt)) := Lib.hid rfl
 rw [R.out]
 clear R
 generalize cmpI xf yf = r1 at k1 ⊢
 generalize cmpI xd yd = r2 at k2 ⊢
 generalize cmpI xt yt = r3 at k3 ⊢
 go_enter Tryz.func70, Tryz.ntmps70
 go_upto_region 1 with (fail)
 obtain ⟨V, hV⟩ : ∃ V, Hid ((W.alloc (.cells #[.int .i64 xd, .int .i64 xf, .int .i64 xt] 114)).alloc (.cells #[.int .i64 yd, .int .i64 yf, .int .i64 yt] 114) = V) := ⟨_, rfl⟩
 rw [hV.out]
 have hA : Blk V W.heap.size 114 #[.int .i64 xd, .int .i64 xf, .int .i64 xt] := by rw [← hV.out]; exact Blk.alloc (blk_new' rfl rfl) _
 have hB : Blk V (W.heap.size + 1) 114 #[.int .i64 yd, .int .i64 yf, .int .i64 yt] := by rw [← hV.out]; exact blk_new' (by rw [World.size_alloc]) rfl
 have a0 : V.cell? ⟨W.heap.size, 0, none⟩ = some (.int .i64 xd) := hA.cell 0
 have a1 : V.cell? ⟨W.heap.size, 1, none⟩ = some (.int .i64 xf) := hA.cell 1
 have a2 : V.cell? ⟨W.heap.size, 2, none⟩ = some (.int .i64 xt) := hA.cell 2
 have al := hA.lt
 have b0 : V.cell? ⟨W.heap.size + 1, 0, none⟩ = some (.int .i64 yd) := hB.cell 0
 have b1 : V.cell? ⟨W.heap.size + 1, 1, none⟩ = some (.int .i64 yf) := hB.cell 1
 have b2 : V.cell? ⟨W.heap.size + 1, 2, none⟩ = some (.int .i64 yt) := hB.cell 2
 have bl := hB.lt
 clear hA hB
 refine wp_region_still_tail 19 (by kernel_rfl) (by kernel_rfl) ?_
 simp only [List.take_succ_cons, List.take_zero, List.drop_succ_cons, List.drop_zero]
 iterate 6 still_step
 still_call (k1 _)
 iterate 4 still_step
 still_call (k2 _)
 iterate 6 still_step
 still_call (k3 _)
 refine wpStill_nil ?_
 clear a0 a1 a2 al b0 b1 b2 bl k1 k2 k3
 obtain ⟨V2, hV2⟩ : ∃ V2 : World, Hid (({ heap := V.heap, tape := V.tape, drawn := V.drawn + 1, os := V.os, output := V.output } : World) = V2) := ⟨_, rfl⟩
 rw [hV2.out]
 go_wp2_with fail
 refine (or_calls V2.heap.size r1 r2 r3 _ (blk_new' rfl rfl)).mono ?_
 rintro e w1 ⟨rfl, rfl⟩
 go_wp2
 go_ret
 refine ⟨rfl, 1, (#[.cells #[.int .i64 xd, .int .i64 xf, .int .i64 xt] 114 (0, 0)] ++ #[.cells #[.int .i64 yd, .int .i64 yf, .int .i64 yt] 114 (0, 0)]) ++ #[.cells #[.int .i64 r1, .int .i64 r2, .int .i64 r3] 3 (0, 0)], ?_⟩
 rw [← Sort.grow_grow, ← Sort.grow_grow, Sort.alloc_eq_grow, ← hV2.out, ← hV.out, Sort.alloc_eq_grow, Sort.alloc_eq_grow]
 rfl
theorem cmpI_lt (x y : Int) : cmpI x y < 0 ↔ x < y := by
 unfold cmpI
 split
 ·omega
 ·split <;> omega
theorem cmpI_zero (x y : Int) : cmpI x y = 0 ↔ x = y := by
 unfold cmpI
 split
 ·omega
 ·split <;> omega
theorem ordI_lt (x y : InstD) : ordI x y < 0 ↔ ltI x y := by
 unfold ordI orI ltI
 have h1 := cmpI_lt x.2.1 y.2.1
 have h2 := cmpI_lt x.1 y.1
 have h3 := cmpI_lt x.2.2 y.2.2
 have e1 := cmpI_zero x.2.1 y.2.1
 have e2 := cmpI_zero x.1 y.1
 split
 ·omega
 ·split <;> omega
theorem in_lt (x y : InstD) : ltOf ordI x y = decide (ltI x y) := by
 have h := ordI_lt x y
 unfold ltOf
 by_cases hl : ltI x y
 ·rw [decide_eq_true hl]
  simp [h.2 hl]
 ·rw [decide_eq_false hl]
  have : ¬ ordI x y < 0 := fun e => hl (h.1 e)
  simp; omega
theorem in_swo : Sort.SWO (ltOf ordI) where
 irrefl x := by rw [in_lt]; simp [ltI]
 trans x y z h1 h2 := by rw [in_lt, decide_eq_true_eq] at *; unfold ltI at *; omega
 ntrans x y z h1 h2 := by rw [in_lt, decide_eq_false_iff_not] at *; unfold ltI at *; omega
theorem sortedI_of {d : Array InstD} (h : Sort.SortedIn (ltOf ordI) 0 d.size d) : SortedI d.toList := by
 unfold SortedI
 rw [List.pairwise_iff_getElem]
 intro i j hi hj hij
 have hi' : i < d.size := by simpa using hi
 have hj' : j < d.size := by simpa using hj
 have := h i j (Nat.zero_le _) hij hj'
 rw [in_lt, getElem!_pos d j hj', getElem!_pos d i hi', decide_eq_false_iff_not] at this
 simpa using this
theorem sortIn_calls (w : World) (B : Nat) (v : Value) (l : List InstD) (h : InstsO w B v l) (hl : l.length ≤ 1000000) :
  Calls Tryz.prog 69 #[v, .func (.func 70) #[] #[]] w fun e w' =>
   e = .returned (.tuple #[]) ∧ InstsO w' B v (sortI l) ∧ Keep (fun k => v.ownBlock = some k) w w' := by
 cases l with
 | nil =>
  obtain ⟨A, c, rfl⟩ := owns_form h
  have hcon := AnyF.slices_SortFunc_none Tryz.sortInYtgolicoalldidaaGreat A c (.func (.func 70) #[] #[]) w
  change Calls Tryz.prog 69 _ _ _ at hcon
  refine hcon.mono ?_
  rintro e w' ⟨rfl, rfl⟩
  exact ⟨rfl, h, Keep.of_ext (Ext.refl _)⟩
 | cons x r =>
  obtain ⟨g, c, rfl⟩ : ∃ g c, v = .slice (some ⟨g, 0, none⟩) (x :: r).length c := by
   rcases h.2 with ⟨_, h0⟩ | ⟨g, cap, cur, rfl, _⟩
   ·simp at h0
   ·exact ⟨_, _, rfl⟩
  generalize hxl : x :: r = l at *
  have eg : ∀ args w, (callFunc 70 args).run Tryz.prog w = .ok (.enter 70 args) w := enters_of Tryz.func70 (by kernel_rfl) rfl
  have hcon := AnyQ.slices_SortFunc Tryz.sortInYtgolicoalldidaaGreat 3 Tryz.isAgg114 Tryz.sizeOf114 inEnc (fun _ => rfl) (fun x v hv => by simp [inEnc] at hv; rcases hv with rfl | rfl | rfl <;> rfl) ordI in_swo 70 #[] g 0 c l.toArray w eg
   (fun _ _ _ _ x y => order_calls_in x y _) (holds_in h) ((h.lt g rfl).2) (by simp; omega)
  change Calls Tryz.prog 69 _ _ _ at hcon
  rw [List.size_toArray] at hcon
  refine hcon.mono ?_
  rintro e w' ⟨rfl, d', n, os, hp, hs, rfl⟩
  obtain ⟨h1, _, h3⟩ := hp
  have hsz : d'.size = l.length := by simpa using h1
  rw [← hsz] at hs
  have hperm : d'.toList.Perm l := by
   have e1 : d'.extract 0 l.length = d' := by rw [← hsz]; simp
   have e2 : l.toArray.extract 0 l.length = l.toArray := by simp
   rw [e1, e2] at h3
   simpa using h3
  have hd : d'.toList = sortI l := sortedI_unique (hperm.trans (sortI_perm l).symm) (sortedI_of hs) (sortI_sorted l)
  refine ⟨rfl, ?_, ?_⟩
  ·have ho := owns_put h (Sort.flatK inEnc 3 d') (by rw [Sort.size_flatK, hsz]) n os
   have e : Sort.flatK inEnc 3 d' = (inCells d'.toList).toArray := by
    have := flat_in d'.toList
    simpa using this
   unfold InstsO
   rw [(sortI_perm l).length_eq, ← hd]
   unfold sortWorldK Sort.putRowK
   rw [e] at ho ⊢
   exact ho
  ·have hk := keep_put w g (Sort.flatK inEnc 3 d') n os
   exact hk.mono (fun k _ hk => by rw [hk]; rfl)
end Go.Proofs.YtgolicoalldidaaGreat
namespace Go.Proofs.YtgolicoalldidaaGreat
open Go.RowKit
attribute [local go_sem] Oper.semAt_some
theorem in_eql (x y : InstD) (w : World) : (binOp .eql 114 (.agg #[.int .i64 x.1, .int .i64 x.2.1, .int .i64 x.2.2]) (.agg #[.int .i64 y.1, .int .i64 y.2.1, .int .i64 y.2.2])).run Tryz.prog w = .ok (.bool (decide (x = y))) w := by
 obtain ⟨a, b, c⟩ := x
 obtain ⟨d, e, f⟩ := y
 dsimp only
 have u3 := Tryz.underlying3
 have a3 := Tryz.isAgg3
 have z3 := Tryz.sizeOf3
 have a4 := Tryz.isAgg111
 have z4 := Tryz.sizeOf111
 have hS : Tryz.prog.underlying 114 = some (.struct (Tryz.prog.fieldsOf 114)) := by kernel_rfl
 have hp : Tryz.prog.stoodInHeld 114 = false := by kernel_rfl
 rw [run_eql_struct, show (10000 : Nat) = 9999 + 1 from rfl, run_equalIn_agg w 9999 114 _ _ hS hp]
 simp only [Program.fieldsOf, Tryz.underlying114]
 go_simp
 by_cases h1 : a = d <;> by_cases h2 : b = e <;> by_cases h3 : c = f <;> simp [h1, h2, h3]
theorem in_neq (x y : InstD) (w : World) : (binOp .neq 114 (.agg #[.int .i64 x.1, .int .i64 x.2.1, .int .i64 x.2.2]) (.agg #[.int .i64 y.1, .int .i64 y.2.1, .int .i64 y.2.2])).run Tryz.prog w = .ok (.bool (!decide (x = y))) w := by
 have h := in_eql x y w
 rw [run_eql_struct] at h
 rw [run_neq_struct]
 generalize (Op.equalIn 10000 114 (.agg #[.int .i64 x.1, .int .i64 x.2.1, .int .i64 x.2.2]) (.agg #[.int .i64 y.1, .int .i64 y.2.1, .int .i64 y.2.2])).run Tryz.prog w = r at h ⊢
 cases r with
 | ok b w1 =>
  simp only [Result.andThen_ok] at h ⊢
  cases h
  rfl
 | _ => simp [Result.andThen] at h
theorem in_guard (op : BinOp) (a b : Operand) (x y : InstD) (w : World) : (eqGuard op 114 a b (.agg #[.int .i64 x.1, .int .i64 x.2.1, .int .i64 x.2.2]) (.agg #[.int .i64 y.1, .int .i64 y.2.1, .int .i64 y.2.2])).run Tryz.prog w = .ok () w :=
 run_eqGuard_agg w op 114 a b #[.int .i64 x.1, .int .i64 x.2.1, .int .i64 x.2.2] #[.int .i64 y.1, .int .i64 y.2.1, .int .i64 y.2.2] (by kernel_rfl)
theorem less_callsI (x y : InstD) (w : World) : Calls Tryz.prog 76 #[.agg #[.int .i64 x.1, .int .i64 x.2.1, .int .i64 x.2.2], .agg #[.int .i64 y.1, .int .i64 y.2.1, .int .i64 y.2.2]] w fun e w' => e = .returned (.bool (decide (ltI x y))) ∧ Ext w w' := by
 obtain ⟨a, b, c⟩ := x
 obtain ⟨d, e, f⟩ := y
 dsimp only
 by_cases h1 : b = e
 ·have d1 : (b != e) = false := by simp [h1]
  by_cases h2 : a = d
  ·have d2 : (a != d) = false := by simp [h2]
   have R : Hid (decide (ltI (a, b, c) (d, e, f)) = decide (c < f)) := Lib.hid (by unfold ltI; dsimp only; congr 1; apply propext; omega)
   rw [R.out]
   obtain ⟨q, hq⟩ : ∃ q, decide (c < f) = q := ⟨_, rfl⟩
   rw [hq]
   clear R h1 h2
   go_enter Tryz.func76, Tryz.ntmps76
   go_wp2
   go_ret
   exact ⟨rfl, (by with_reducible repeat' (first | exact Ext.refl _ | assumption | refine Ext.drewN ?_ _ | refine Ext.drew ?_ | refine Ext.alloc ?_ _ | refine Ext.trans ?_ (by with_reducible assumption)))⟩
  ·have d2 : (a != d) = true := by simp [h2]
   have R : Hid (decide (ltI (a, b, c) (d, e, f)) = decide (a < d)) := Lib.hid (by unfold ltI; dsimp only; congr 1; apply propext; omega)
   rw [R.out]
   obtain ⟨q, hq⟩ : ∃ q, decide (a < d) = q := ⟨_, rfl⟩
   rw [hq]
   clear R h1 h2
   go_enter Tryz.func76, Tryz.ntmps76
   go_wp2
   go_ret
   exact ⟨rfl, (by with_reducible repeat' (first | exact Ext.refl _ | assumption | refine Ext.drewN ?_ _ | refine Ext.drew ?_ | refine Ext.alloc ?_ _ | refine Ext.trans ?_ (by with_reducible assumption)))⟩
 ·have d1 : (b != e) = true := by simp [h1]
  have R : Hid (decide (ltI (a, b, c) (d, e, f)) = decide (b < e)) := Lib.hid (by unfold ltI; dsimp only; congr 1; apply propext; omega)
  rw [R.out]
  obtain ⟨q, hq⟩ : ∃ q, decide (b < e) = q := ⟨_, rfl⟩
  rw [hq]
  clear R h1
  go_enter Tryz.func76, Tryz.ntmps76
  go_wp2
  go_ret
  exact ⟨rfl, (by with_reducible repeat' (first | exact Ext.refl _ | assumption | refine Ext.drewN ?_ _ | refine Ext.drew ?_ | refine Ext.alloc ?_ _ | refine Ext.trans ?_ (by with_reducible assumption)))⟩
theorem rising_next : ∀ {l : List Int} {low P : Int}, risingP low P l = true → ∀ i x y, l[i]? = some x → l[i + 1]? = some y → x < y
 | [], _, _, _, i, x, y, h, _ => by simp at h
 | a :: r, low, P, h, 0, x, y, hx, hy => by
  unfold risingP at h
  split at h
  ·cases h
  ·simp at hx hy
   subst hx
   exact (rising_mem h y (List.mem_of_getElem? hy)).1
 | a :: r, low, P, h, i + 1, x, y, hx, hy => by
  unfold risingP at h
  split at h
  ·cases h
  ·exact rising_next h i x y (by simpa using hx) (by simpa using hy)
theorem rising4_calls (v : Value) (l : List Int) (lim : Int) (w : World) (h : Ints w v l) (hr : risingP (-1) lim l = true) :
  Calls Tryz.prog 101 #[v, .int .i64 lim] w fun e w' => e = .returned (.bool true) ∧ Ext w w' := by
 obtain ⟨a, c, rfl, hn, hc, hat⟩ := h.open
 have hat' := Lib.hid hat
 have hr' := Lib.hid hr
 clear h hat hr
 go_enter Tryz.func101, Tryz.ntmps101
 go_wp2_with fail
 go_loopw [5] (fun vi wr => ∃ i : Nat, i ≤ l.length ∧ vi = .int .i64 i ∧ Hid (Ext w wr)) (fun vi _ => l.length - (intOf vi).toNat)
 case atStart => exact ⟨0, by omega, rfl, Lib.hid (Ext.refl _)⟩
 case round =>
  obtain ⟨i, hi, rfl, hx⟩ := hrel
  by_cases h1 : i < l.length
  ·obtain ⟨b1, o1, x, rfl, hb1, _, ex, g0⟩ := hat'.out i h1 wr hx.out
   obtain ⟨hx0, hx1⟩ := rising_mem' hr'.out x (List.mem_of_getElem? ex.out)
   have d1 : decide (x < 0) = false := decide_eq_false (by omega)
   have d2 : decide (lim ≤ x) = false := decide_eq_false (by omega)
   have z0 := After.cell g0
   by_cases h0 : i = 0
   ·subst h0
    rw [Nat.add_zero] at z0
    clear hx0 hx1 ex g0
    go_wp2_with fail
    refine wp_region_after (by kernel_rfl) (by kernel_rfl) ?_
    repeat (go_big_quiet_step (fail))
    refine wpQuiet_nil ?_
    rintro _ ⟨y, rfl⟩
    have hy := Lib.hid (hx.out.trans y.ext)
    generalize y.world = Y at hy ⊢
    clear z0 hx
    go_wp2
    go_roundw
    case rel => exact ⟨1, by omega, by go_num, hy⟩
    case measure => simp [intOf]; omega
   ·obtain ⟨b2, o2, y, e2, hb2, _, ey, g1⟩ := hat'.out (i - 1) (by omega) wr hx.out
    cases e2
    have hlt := rising_next hr'.out (i - 1) y x ey.out (by rw [show i - 1 + 1 = i by omega]; exact ex.out)
    have d3 : decide (x ≤ y) = false := decide_eq_false (by omega)
    have d4 : decide (0 < i) = true := decide_eq_true (by omega)
    have z1 := After.cell g1
    clear hx0 hx1 ex ey g0 g1 hlt
    go_wp2_with fail
    refine wp_region_after (by kernel_rfl) (by kernel_rfl) ?_
    repeat (go_big_quiet_step (fail))
    refine wpQuiet_nil ?_
    rintro _ ⟨y, rfl⟩
    have hy := Lib.hid (hx.out.trans y.ext)
    generalize y.world = Y at hy ⊢
    clear z0 z1 hx
    go_wp2
    go_roundw
    case rel => exact ⟨i + 1, by omega, by go_num, hy⟩
    case measure => simp [intOf]; omega
  ·go_wp2
   go_ret
   exact ⟨rfl, hx.out⟩
def PerOk0 (p : PerD) : Prop := p.head = [] ∧ 0 ≤ p.from_ ∧ p.from_ ≤ 1000 ∧ 1 ≤ p.period ∧ p.period ≤ 1000 ∧ p.cycle.length ≤ 1000 ∧ risingP (-1) p.period p.cycle = true
theorem per4Valid_calls (v : Value) (p : PerD) (w : World) (h : PerV w v p) (hok : PerOk0 p) :
  Calls Tryz.prog 75 #[v] w fun e w' => e = .returned (.bool true) ∧ Ext w w' := by
 obtain ⟨hv, cv, rfl, hh, hc⟩ := h
 obtain ⟨e0, f0, f1, q0, q1, hcl, hri⟩ := hok
 obtain ⟨f, fe⟩ : ∃ f, p.from_ = f := ⟨_, rfl⟩
 obtain ⟨q, qe⟩ : ∃ q, p.period = q := ⟨_, rfl⟩
 obtain ⟨cs, ce⟩ : ∃ cs, p.cycle = cs := ⟨_, rfl⟩
 rw [e0] at hh
 rw [ce] at hc hcl
 rw [qe, ce] at hri
 rw [fe] at f0 f1 ⊢
 rw [qe] at q0 q1 ⊢
 clear e0 fe qe ce
 obtain ⟨ha, hcp, rfl⟩ := hh.form
 obtain ⟨ca, cc, rfl⟩ := hc.form
 have hcl1 : Hid (∀ W, Ext w W → Calls Tryz.prog 101 #[.slice ha 0 hcp, .int .i64 f] W fun e w' => e = .returned (.bool true) ∧ Ext W w') := Lib.hid fun W hW => rising4_calls _ [] f W (hh.ext hW) rfl
 have hcl2 : Hid (∀ W, Ext w W → Calls Tryz.prog 101 #[.slice ca cs.length cc, .int .i64 q] W fun e w' => e = .returned (.bool true) ∧ Ext W w') := Lib.hid fun W hW => rising4_calls _ cs q W (hc.ext hW) hri
 have d1 : decide (f < 0) = false := decide_eq_false (by omega)
 have d2 : decide (1099511627776 < f) = false := decide_eq_false (by omega)
 have d3 : decide (q < 1) = false := decide_eq_false (by omega)
 have d4 : decide (1099511627776 < q) = false := decide_eq_false (by omega)
 obtain ⟨k, hk⟩ : ∃ k, Hid (cs.length = k) := ⟨_, rfl⟩
 rw [hk.out] at hcl2 hcl ⊢
 have d5 : decide (1048576 < (k : Int)) = false := decide_eq_false (by omega)
 clear hri hh hc
 go_enter Tryz.func75, Tryz.ntmps75
 go_wp2_with fail
 refine (hcl1.out _ (by with_reducible repeat' (first | exact Ext.refl _ | assumption | refine Ext.drewN ?_ _ | refine Ext.drew ?_ | refine Ext.alloc ?_ _ | refine Ext.trans ?_ (by with_reducible assumption)))).mono ?_
 rintro e w1 ⟨rfl, hx1⟩
 have hB : Hid (Blk w1 w.heap.size 131 #[.slice ha 0 hcp, .int .i64 f, .int .i64 q, .slice ca k cc]) := Lib.hid ((Keep.of_ext (X := fun _ => False) hx1).blk (blk_new' rfl rfl) id)
 have hE := Lib.hid (show Ext w w1 from Ext.trans (by exact (by with_reducible repeat' (first | exact Ext.refl _ | assumption | refine Ext.drewN ?_ _ | refine Ext.drew ?_ | refine Ext.alloc ?_ _ | refine Ext.trans ?_ (by with_reducible assumption)))) hx1)
 have c2 : w1.cell? ⟨w.heap.size, 2, none⟩ = some (.int .i64 q) := hB.out.cell 2
 have c3 : w1.cell? ⟨w.heap.size, 3, none⟩ = some (.slice ca k cc) := hB.out.cell 3
 have l0 := hB.out.lt
 clear hx1 hcl1
 go_wp2_with fail
 refine (hcl2.out _ hE.out).mono ?_
 rintro e w2 ⟨rfl, hx2⟩
 have hE2 := Lib.hid (hE.out.trans hx2)
 clear hx2 c2 c3 l0
 go_wp2
 go_ret
 exact ⟨rfl, hE2.out⟩
theorem per4Empty_calls (v : Value) (p : PerD) (w : World) (h : PerV w v p) (hok : PerOk0 p) :
  Calls Tryz.prog 50 #[v] w fun e w' => e = .returned (.bool (decide (p.cycle.length = 0))) ∧ Ext w w' := by
 have hv : Hid (∀ W, Ext w W → Calls Tryz.prog 75 #[v] W fun e w' => e = .returned (.bool true) ∧ Ext W w') := Lib.hid fun W hW => per4Valid_calls v p W (h.ext hW) hok
 obtain ⟨ha, ca, rfl, hh, hc⟩ := h
 obtain ⟨e0, _, _, _, _, hcl, _⟩ := hok
 rw [e0] at hh
 obtain ⟨a1, c1, rfl⟩ := hh.form
 obtain ⟨a2, c2, rfl⟩ := hc.form
 obtain ⟨k, hk⟩ : ∃ k, Hid (p.cycle.length = k) := ⟨_, rfl⟩
 obtain ⟨f, fe⟩ : ∃ f, p.from_ = f := ⟨_, rfl⟩
 obtain ⟨q, qe⟩ : ∃ q, p.period = q := ⟨_, rfl⟩
 rw [hk.out] at hv hcl ⊢
 rw [fe, qe] at hv ⊢
 rw [List.length_nil] at hv ⊢
 obtain ⟨qb, hqb⟩ : ∃ qb, Hid (decide (k = 0) = qb) := ⟨_, rfl⟩
 rw [hqb.out]
 clear hh hc e0 fe qe
 go_enter Tryz.func50, Tryz.ntmps50
 go_wp2_with fail
 refine (hv.out _ (by with_reducible repeat' (first | exact Ext.refl _ | assumption | refine Ext.drewN ?_ _ | refine Ext.drew ?_ | refine Ext.alloc ?_ _ | refine Ext.trans ?_ (by with_reducible assumption)))).mono ?_
 rintro e w1 ⟨rfl, hx1⟩
 have hB : Hid (Blk w1 w.heap.size 131 #[.slice a1 0 c1, .int .i64 f, .int .i64 q, .slice a2 k c2]) := Lib.hid ((Keep.of_ext (X := fun _ => False) hx1).blk (blk_new' rfl rfl) id)
 have hE := Lib.hid (show Ext w w1 from Ext.trans (by exact (by with_reducible repeat' (first | exact Ext.refl _ | assumption | refine Ext.drewN ?_ _ | refine Ext.drew ?_ | refine Ext.alloc ?_ _ | refine Ext.trans ?_ (by with_reducible assumption)))) hx1)
 have b0 : w1.cell? ⟨w.heap.size, 0, none⟩ = some (.slice a1 0 c1) := hB.out.cell 0
 have b3 : w1.cell? ⟨w.heap.size, 3, none⟩ = some (.slice a2 k c2) := hB.out.cell 3
 have l0 := hB.out.lt
 clear hx1 hv hk
 by_cases h0 : k = 0
 ·have R : Hid (qb = true) := Lib.hid (by rw [← hqb.out]; exact decide_eq_true h0)
  subst h0
  go_wp2
  go_ret
  rw [R.out]
  exact ⟨rfl, hE.out⟩
 ·have d0 : ((k : Int) == 0) = false := by rw [beq_eq_false_iff_ne]; omega
  have R : Hid (qb = false) := Lib.hid (by rw [← hqb.out]; exact decide_eq_false h0)
  clear h0
  go_wp2
  go_ret
  rw [R.out]
  exact ⟨rfl, hE.out⟩
end Go.Proofs.YtgolicoalldidaaGreat
namespace Go.Proofs.YtgolicoalldidaaGreat
open Go.RowKit
attribute [local go_sem] Oper.semAt_some
theorem compI_snoc : ∀ (a : List InstD) (x : InstD), compI (a ++ [x]) = if a.getLast? = some x then compI a else compI a ++ [x]
 | [], x => by simp [compI]
 | [y], x => by
  by_cases h : y = x
  ·subst h; simp [compI]
  ·have h' : ¬ x = y := fun e => h e.symm
   simp [compI, h, h']
 | y :: z :: t, x => by
  have ih := compI_snoc (z :: t) x
  have e : (y :: z :: t) ++ [x] = y :: ((z :: t) ++ [x]) := rfl
  have hl : (y :: z :: t).getLast? = (z :: t).getLast? := by simp
  have h1 : ((z :: t) ++ [x]).head? = (z :: t).head? := rfl
  rw [e, compI, h1, ih, hl]
  conv => rhs; rw [compI]
  split <;> split <;> simp_all
theorem compI_take {l : List InstD} {j : Nat} {x y : InstD} (hx : l[j]? = some x) (h0 : 0 < j) (hy : l[j - 1]? = some y) : compI (l.take (j + 1)) = if y = x then compI (l.take j) else compI (l.take j) ++ [x] := by
 have hj : j < l.length := (List.getElem?_eq_some_iff.1 hx).1
 have hl : (l.take j).getLast? = some y := by
  rw [List.getLast?_eq_getElem?, List.length_take, Nat.min_eq_left (by omega), List.getElem?_take, if_pos (by omega), hy]
 rw [List.take_add_one, hx]
 simp only [Option.toList_some]
 rw [compI_snoc, hl]
 by_cases h : y = x <;> simp [h]
theorem take_at' {l : List InstD} {i : Nat} {y : InstD} (hy : l[i]? = some y) : l.take (i + 1) = l.take i ++ [y] := by rw [List.take_add_one, hy]; rfl
theorem setCells_blk : ∀ (xs : List Value) (w : World) (g o : Nat) (T : TypeId) (cs : Array Value), Blk w g T cs → ∃ cs', Blk (w.setCells g o xs) g T cs' ∧ cs'.size = cs.size ∧ (∀ j, j < o → cs'[j]? = cs[j]?) ∧ Keep (fun k => k = g) w (w.setCells g o xs)
 | [], w, g, o, T, cs, h => ⟨cs, h, rfl, fun _ _ => rfl, Keep.refl _ _⟩
 | x :: xs, w, g, o, T, cs, h => by
  obtain ⟨cs', h1, h2, h3, h4⟩ := setCells_blk xs (w.setCell ⟨g, o, none⟩ x) g (o + 1) T _ (h.set_ o x)
  refine ⟨cs', h1, by rw [h2]; simp, fun j hj => ?_, (Keep.setCell (X := fun k => k = g) (p := ⟨g, o, none⟩) (Keep.refl _ _) (Or.inl rfl) x).trans h4⟩
  rw [h3 j (by omega), Array.getElem?_setIfInBounds_ne (by omega)]
theorem zero_cells (n : Nat) : (Builtin.zeroCells #[Value.int .i64 0, .int .i64 0, .int .i64 0] n).toList = List.replicate (n * 3) (.int .i64 0) := by
 apply List.ext_getElem
 ·simp [Builtin.zeroCells]
 ·intro i h1 h2
  simp [Builtin.zeroCells]
  have : i % 3 = 0 ∨ i % 3 = 1 ∨ i % 3 = 2 := by omega
  rcases this with h | h | h <;> simp [h]
theorem run_clear_in (w : World) (ty : TypeId) (g o n c : Nat) (hc : ∀ j, j < n * 3 → (w.cell? ⟨g, o + j, none⟩).isSome = true) (hf : ∀ j, j < n * 3 → w.frozen? ⟨g, o + j, none⟩ = false) (hn : 0 < n) :
  (Builtin.clear_ #[48] ty #[.slice (some ⟨g, o, none⟩) n c]).run Tryz.prog w = .ok (.tuple #[]) (w.setCells g o (List.replicate (n * 3) (.int .i64 0))) := by
 have hst := run_storeCells_cells (P := Tryz.prog) g o (List.replicate (n * 3) (.int .i64 0)) 0 w (by simpa using hc) (by simpa using hf) (by intro v hv'; rw [List.eq_of_mem_replicate hv']; rfl)
 simp only [Nat.add_zero] at hst
 have ht := Tryz.underlying48
 have hz : ∀ W, (zeroValue 114).run Tryz.prog W = .ok (.agg #[.int .i64 0, .int .i64 0, .int .i64 0]) W := Tryz.zeroValue114
 obtain ⟨m, rfl⟩ : ∃ m, n = m + 1 := ⟨n - 1, by omega⟩
 have hzc := zero_cells (m + 1)
 have hcl : (Value.agg #[.int .i64 0, .int .i64 0, .int .i64 0]).cells = #[.int .i64 0, .int .i64 0, .int .i64 0] := rfl
 simp [Builtin.clear_, run_underlying ht, hz, hcl, hzc, hst]
theorem inCells_set (x : InstD) : ∀ (l : List InstD) (i : Nat), i < l.length → inCells (l.set i x) = (((inCells l).set (i * 3) (.int .i64 x.1)).set (i * 3 + 1) (.int .i64 x.2.1)).set (i * 3 + 2) (.int .i64 x.2.2)
 | [], i, h => by simp at h
 | y :: r, 0, _ => rfl
 | y :: r, i + 1, h => by
  have ih := inCells_set x r i (by simpa using h)
  have e : ∀ l' : List InstD, inCells (y :: l') = .int .i64 y.1 :: .int .i64 y.2.1 :: .int .i64 y.2.2 :: inCells l' := fun _ => rfl
  rw [List.set_cons_succ, e, ih, e, show (i + 1) * 3 + 2 = i * 3 + 2 + 1 + 1 + 1 by omega, show (i + 1) * 3 + 1 = i * 3 + 1 + 1 + 1 + 1 by omega, show (i + 1) * 3 = i * 3 + 1 + 1 + 1 by omega]
  rfl
theorem InstsO.set_ {W : World} {B g n c i : Nat} {l : List InstD} (h : InstsO W B (.slice (some ⟨g, 0, none⟩) n c) l) (hn : n = l.length) (hi : i < n) (x : InstD) :
  InstsO (((W.setCell ⟨g, i * 3, none⟩ (.int .i64 x.1)).setCell ⟨g, i * 3 + 1, none⟩ (.int .i64 x.2.1)).setCell ⟨g, i * 3 + 2, none⟩ (.int .i64 x.2.2)) B (.slice (some ⟨g, 0, none⟩) n c) (l.set i x) := by
 subst hn
 have h1 := (World.ownsRow.stored h (i * 3) (.int .i64 x.1)).1
 have h2 := (h1.stored (i * 3 + 1) (.int .i64 x.2.1)).1
 have h3 := (h2.stored (i * 3 + 2) (.int .i64 x.2.2)).1
 unfold InstsO
 rw [List.length_set, inCells_set x l i hi]
 exact h3
theorem InstsO.at_ {W : World} {B g n c i : Nat} {l : List InstD} {x : InstD} (h : InstsO W B (.slice (some ⟨g, 0, none⟩) n c) l) (hx : l[i]? = some x) :
  W.cell? ⟨g, i * 3, none⟩ = some (.int .i64 x.1) ∧ W.cell? ⟨g, i * 3 + 1, none⟩ = some (.int .i64 x.2.1) ∧ W.cell? ⟨g, i * 3 + 2, none⟩ = some (.int .i64 x.2.2) := by
 obtain ⟨h0, h1, h2⟩ := inCells_at i x hx
 have e : ∀ j, (⟨g, 0, none⟩ : Addr).add j = ⟨g, j, none⟩ := fun j => by unfold Addr.add; split <;> simp_all
 have k0 := h.cells (g := g) rfl _ _ h0
 have k1 := h.cells (g := g) rfl _ _ h1
 have k2 := h.cells (g := g) rfl _ _ h2
 rw [e] at k0 k1 k2
 exact ⟨k0, k1, k2⟩
structure CompS (l : List InstD) (j k : Nat) (cur : List InstD) : Prop where
 len : cur.length = l.length
 low : cur.take k = compI (l.take j)
 high : ∀ i, j ≤ i + 1 → cur[i]? = l[i]?
 lt : k < j
theorem CompS.start {l : List InstD} {k : Nat} {x : InstD} (h0 : 1 ≤ k) (hno : compI (l.take k) = l.take k) (hx : l[k]? = some x) (hy : l[k - 1]? = some x) : CompS l (k + 1) k l :=
 ⟨rfl, by rw [compI_take hx (by omega) hy, if_pos rfl, hno], fun _ _ => rfl, by omega⟩
theorem CompS.skip {l cur : List InstD} {j k : Nat} {x : InstD} (h : CompS l j k cur) (hx : l[j]? = some x) (hy : l[j - 1]? = some x) : CompS l (j + 1) k cur :=
 ⟨h.len, by rw [h.low, compI_take hx (by have := h.lt; omega) hy, if_pos rfl], fun i hi => h.high i (by omega), by have := h.lt; omega⟩
theorem CompS.keep {l cur : List InstD} {j k : Nat} {x y : InstD} (h : CompS l j k cur) (hx : l[j]? = some x) (hy : l[j - 1]? = some y) (hne : x ≠ y) : CompS l (j + 1) (k + 1) (cur.set k x) := by
 have hj : j < l.length := (List.getElem?_eq_some_iff.1 hx).1
 have hk := h.lt
 have hl := h.len
 refine ⟨by rw [List.length_set]; exact hl, ?_, fun i hi => ?_, by omega⟩
 ·rw [compI_take hx (by omega) hy, if_neg (fun e => hne e.symm), ← h.low, List.take_add_one, List.getElem?_set_self (by omega), List.take_set_of_le (Nat.le_refl _)]
  rfl
 ·rw [List.getElem?_set_ne (by omega)]
  exact h.high i (by omega)
theorem compI_short : ∀ {l : List InstD}, l.length < 2 → compI l = l
 | [], _ => rfl
 | [x], _ => by simp [compI]
 | _ :: _ :: _, h => by simp at h; omega
set_option maxRecDepth 100000 in
theorem compact_calls (w : World) (B : Nat) (A : Option Addr) (C n0 : Nat) (l : List InstD) (h : InstsO w B (.slice A n0 C) l) (hl : l.length ≤ 1000000) :
  Calls Tryz.prog 71 #[.slice A n0 C] w fun e w' => ∃ m, e = .returned (.slice A m C) ∧ Insts w' (.slice A m C) (compI l) ∧ Keep (fun k => (Value.slice A n0 C).ownBlock = some k) w w' := by
 obtain rfl : n0 = l.length := by
  rcases h.2 with ⟨e, h0⟩ | ⟨_, _, _, e, _⟩
  ·cases e; exact h0.symm
  ·cases e; rfl
 by_cases h2 : l.length < 2
 ·have hR : Hid (Insts w (.slice A l.length C) (compI l)) := Lib.hid (by rw [compI_short h2]; exact h.read)
  clear h
  have d2 : decide ((l.length : Int) < 2) = true := decide_eq_true (by omega)
  go_enter Tryz.func71, Tryz.ntmps71
  go_wp2
  go_ret
  exact ⟨_, rfl, hR.out, Keep.refl _ _⟩
 ·obtain ⟨g, c, hv, hv2, hc, hc2⟩ : ∃ g c, A = some ⟨g, 0, none⟩ ∧ c = C ∧ l.length ≤ c ∧ c ≤ 9223372036854775807 := by
   rcases h.2 with ⟨_, h0⟩ | ⟨g, cap, cur, e, _, _, hn, hcap, _⟩
   ·omega
   ·cases e
    exact ⟨_, _, rfl, rfl, hn, hcap⟩
  subst hv
  obtain rfl : c = C := hv2
  obtain ⟨n, hn⟩ : ∃ n, l.length = n := ⟨_, rfl⟩
  rw [hn] at h hc hl h2 ⊢
  have hn' := Lib.hid hn
  clear hn
  have hO := Lib.hid h
  clear h
  have d2 : decide ((n : Int) < 2) = false := decide_eq_false (by omega)
  go_enter Tryz.func71, Tryz.ntmps71
  go_wp2_with fail
  go_loopw [3] (fun v3 wr => ∃ k : Nat, 1 ≤ k ∧ k ≤ n ∧ v3 = .int .i64 k ∧ Hid (Ext w wr) ∧ Hid (compI (l.take k) = l.take k)) (fun v3 _ => n - (intOf v3).toNat)
  case atStart => exact ⟨1, by omega, by omega, rfl, Lib.hid (Ext.refl _), Lib.hid (compI_short (by rw [List.length_take]; omega))⟩
  case round =>
   obtain ⟨k, hk1, hkn, rfl, hx, hno⟩ := hrel
   by_cases hlt : k < n
   ·obtain ⟨x, hxk⟩ : ∃ x, l[k]? = some x := ⟨_, List.getElem?_eq_getElem (by rw [hn'.out]; exact hlt)⟩
    obtain ⟨y, hyk⟩ : ∃ y, l[k - 1]? = some y := ⟨_, List.getElem?_eq_getElem (by rw [hn'.out]; omega)⟩
    have hOr := Lib.hid (owns_ext hO.out hx.out)
    obtain ⟨p0, p1, p2⟩ := InstsO.at_ (l := l) hOr.out hxk
    obtain ⟨q0, q1, q2⟩ := InstsO.at_ (l := l) hOr.out hyk
    have gl := ((hOr.out.lt g rfl).2)
    have hne := in_eql x y
    have hgd := fun op p q => in_guard op p q x y
    obtain ⟨q, hq⟩ : ∃ q, Hid (decide (x = y) = q) := ⟨_, rfl⟩
    rw [hq.out] at hne
    have z0 := After.cell p0
    have z1 := After.cell p1
    have z2 := After.cell p2
    have z3 := After.cell q0
    have z4 := After.cell q1
    have z5 := After.cell q2
    have hxk' := Lib.hid hxk
    have hyk' := Lib.hid hyk
    clear p0 p1 p2 q0 q1 q2 hxk hyk
    go_wp2_with fail
    refine wp_region_after (by kernel_rfl) (by kernel_rfl) ?_
    repeat (go_big_quiet_step (fail))
    refine wpQuiet_nil ?_
    rintro _ ⟨u, rfl⟩
    have hxV := Lib.hid (hx.out.trans u.ext)
    generalize u.world = V at hxV ⊢
    clear z0 z1 z2 z3 z4 z5 hne hgd hOr hx
    cases q with
    | false =>
     have hno' : Hid (compI (l.take (k + 1)) = l.take (k + 1)) := Lib.hid (by
      rw [compI_take hxk'.out (by omega) hyk'.out, if_neg (fun e => of_decide_eq_false hq.out e.symm), hno.out, take_at' hxk'.out])
     clear hno hq hxk' hyk'
     go_wp2
     go_roundw
     case rel => exact ⟨k + 1, by omega, by omega, by go_num, hxV, hno'⟩
     case measure => simp [intOf]; omega
    | true =>
     have exy := of_decide_eq_true hq.out
     have hC0 : Hid (CompS l (k + 1) k l) := Lib.hid (CompS.start hk1 hno.out hxk'.out (by rw [exy]; exact hyk'.out))
     have hOV := Lib.hid (owns_ext hO.out hxV.out)
     have dck : (c == k) = false := by rw [beq_eq_false_iff_ne]; omega
     clear hno hq hxk' hyk' exy gl
     go_wp2_with fail
     have kV := Lib.hid (Keep.of_ext (X := fun i => i = g) hxV.out)
     clear hO hxV
     go_loopw [3, 5] (fun v3 v5 wr => ∃ (kk k2 : Nat) (cur : List InstD), 1 ≤ k2 ∧ k + k2 ≤ n ∧ v3 = .int .i64 kk ∧ v5 = .int .i64 k2 ∧ Hid (InstsO wr B (.slice (some ⟨g, 0, none⟩) n c) cur) ∧ Hid (CompS l (k + k2) kk cur) ∧ Hid (Keep (fun i => i = g) w wr)) (fun _ v5 _ => n - k - (intOf v5).toNat)
     case atStart => exact ⟨k, 1, l, by omega, by omega, rfl, rfl, hOV, hC0, kV⟩
     case round =>
      clear hC0 hOV kV
      obtain ⟨kk, k2, cur, hk2, hkn2, rfl, rfl, hO, hC, hK⟩ := hrel
      rename World => wq
      have hkk := hC.out.lt
      by_cases hlt2 : k + k2 < n
      ·obtain ⟨x2, hx2⟩ : ∃ x2, l[k + k2]? = some x2 := ⟨_, List.getElem?_eq_getElem (by rw [hn'.out]; exact hlt2)⟩
       obtain ⟨y2, hy2⟩ : ∃ y2, l[k + (k2 - 1)]? = some y2 := ⟨_, List.getElem?_eq_getElem (by rw [hn'.out]; omega)⟩
       obtain ⟨o, ho⟩ : ∃ o, cur[kk]? = some o := ⟨_, List.getElem?_eq_getElem (by rw [hC.out.len, hn'.out]; omega)⟩
       obtain ⟨p0, p1, p2⟩ := InstsO.at_ hO.out (show cur[k + k2]? = some x2 by rw [hC.out.high _ (by omega)]; exact hx2)
       obtain ⟨q0, q1, q2⟩ := InstsO.at_ hO.out (show cur[k + (k2 - 1)]? = some y2 by rw [hC.out.high _ (by omega)]; exact hy2)
       rw [Nat.add_mul] at p0 p1 p2 q0 q1 q2
       have gl := ((hO.out.lt g rfl).2)
       have hne := in_neq x2 y2
       have hgd := fun op p q => in_guard op p q x2 y2
       obtain ⟨q, hq⟩ : ∃ q, Hid ((!decide (x2 = y2)) = q) := ⟨_, rfl⟩
       rw [hq.out] at hne
       have z0 := After.cell p0
       have z1 := After.cell p1
       have z2 := After.cell p2
       have z3 := After.cell q0
       have z4 := After.cell q1
       have z5 := After.cell q2
       have hx2' := Lib.hid hx2
       have hy2' : Hid (l[k + k2 - 1]? = some y2) := Lib.hid (by rw [show k + k2 - 1 = k + (k2 - 1) by omega]; exact hy2)
       have ho' := Lib.hid ho
       clear q0 q1 q2 hx2 hy2 ho p0 p1 p2
       go_wp2_with fail
       refine wp_region_after (by kernel_rfl) (by kernel_rfl) ?_
       repeat (go_big_quiet_step (fail))
       refine wpQuiet_nil ?_
       rintro _ ⟨u, rfl⟩
       replace hO := Lib.hid (show InstsO u.world B (.slice (some ⟨g, 0, none⟩) n c) cur from owns_ext hO.out u.ext)
       replace hK := Lib.hid (hK.out.trans (Keep.of_ext u.ext))
       generalize u.world = V2 at hO hK ⊢
       clear z0 z1 z2 z3 z4 z5 hne hgd
       cases q with
       | false =>
        have exy : x2 = y2 := by have := hq.out; simpa using this
        have hC' : Hid (CompS l (k + (k2 + 1)) kk cur) := Lib.hid (hC.out.skip hx2'.out (by rw [exy]; exact hy2'.out))
        clear hq hC hx2' hy2' ho' exy
        go_wp2
        go_roundw
        case rel => exact ⟨kk, k2 + 1, cur, by omega, by omega, rfl, by go_num, hO, hC', hK⟩
        case measure => simp [intOf]; omega
       | true =>
        have hxy : x2 ≠ y2 := by have := hq.out; simpa using this
        obtain ⟨p0, p1, p2⟩ := InstsO.at_ hO.out (show cur[k + k2]? = some x2 by rw [hC.out.high _ (by omega)]; exact hx2'.out)
        obtain ⟨q0, q1, q2⟩ := InstsO.at_ hO.out ho'.out
        rw [Nat.add_mul] at p0 p1 p2
        have hC' : Hid (CompS l (k + (k2 + 1)) (kk + 1) (cur.set kk x2)) := Lib.hid (hC.out.keep hx2'.out hy2'.out hxy)
        have hrow : V2.ownsRow B 114 3 (.slice (some ⟨g, 0, none⟩) n c) n (inCells cur) := by
         have h := hO.out
         unfold InstsO at h
         rwa [hC.out.len, hn'.out] at h
        have f0 := hrow.frozenAt (kk * 3)
        have f1 := hrow.frozenAt (kk * 3 + 1)
        have f2 := hrow.frozenAt (kk * 3 + 2)
        clear hrow
        have hO' := Lib.hid (hO.out.set_ (i := kk) (by rw [hC.out.len, hn'.out]) (by omega) x2)
        have hK' := Lib.hid (((hK.out.setCell (p := ⟨g, kk * 3, none⟩) (Or.inl rfl) (.int .i64 x2.1)).setCell (p := ⟨g, kk * 3 + 1, none⟩) (Or.inl rfl) (.int .i64 x2.2.1)).setCell (p := ⟨g, kk * 3 + 2, none⟩) (Or.inl rfl) (.int .i64 x2.2.2))
        replace gl := ((hO.out.lt g rfl).2)
        clear hq hC hx2' hy2' ho' hxy hO hK
        go_wp2_with fail
        refine ⟨⟨kk + 1, k2 + 1, _, by omega, by omega, by go_num, by go_num, hO', hC', hK'⟩, ?_⟩
        simp [intOf]
        omega
      ·have hend : k + k2 = n := by omega
       have hrow : wq.ownsRow B 114 3 (.slice (some ⟨g, 0, none⟩) n c) n (inCells cur) := by
        have h := hO.out
        unfold InstsO at h
        rwa [hC.out.len, hn'.out] at h
       have hcl : ∀ ty, (Builtin.clear_ #[48] ty #[.slice (some ⟨g, kk * 3, none⟩) (n - kk) (c - kk)]).run Tryz.prog wq = .ok (.tuple #[]) (wq.setCells g (kk * 3) (List.replicate ((n - kk) * 3) (.int .i64 0))) := fun ty =>
        run_clear_in wq ty g (kk * 3) (n - kk) (c - kk) (fun j hj => by
         have hlt : kk * 3 + j < n * 3 := by omega
         obtain ⟨z, h0⟩ : ∃ z, (inCells cur)[kk * 3 + j]? = some z := ⟨_, List.getElem?_eq_getElem (by rw [inCells_len, hC.out.len, hn'.out]; exact hlt)⟩
         have h1 := hrow.cells (g := g) rfl _ _ h0
         have e : (⟨g, 0, none⟩ : Addr).add (kk * 3 + j) = ⟨g, kk * 3 + j, none⟩ := by unfold Addr.add; split <;> simp_all
         rw [e] at h1
         rw [h1]
         rfl) (fun j _ => hrow.frozenAt (kk * 3 + j)) (by omega)
       have hfin : Hid (Insts (wq.setCells g (kk * 3) (List.replicate ((n - kk) * 3) (.int .i64 0))) (.slice (some ⟨g, 0, none⟩) kk c) (compI l) ∧ Keep (fun i => i = g) w (wq.setCells g (kk * 3) (List.replicate ((n - kk) * 3) (.int .i64 0)))) := Lib.hid (by
        rcases hrow.2 with ⟨h0, _⟩ | ⟨g', cap, cs, e, _, hb, _, _, _, htake⟩
        ·cases h0
        ·cases e
         obtain ⟨cs', h1, _, h3, h4⟩ := setCells_blk (List.replicate ((n - kk) * 3) (.int .i64 0)) wq g (kk * 3) 114 cs hb
         refine ⟨?_, hK.out.trans h4⟩
         have hlow : cur.take kk = compI l := by
          have := hC.out.low
          rw [hend, ← hn'.out, List.take_length] at this
          exact this
         have hlen : (compI l).length = kk := by rw [← hlow, List.length_take, hC.out.len, hn'.out]; omega
         have hat : ∀ i, i < kk → ∀ j, j < 3 → cs'[i * 3 + j]? = (inCells cur)[i * 3 + j]? := fun i hi j hj => by
          rw [h3 _ (by omega), ← htake, List.getElem?_take, if_pos (by omega), Array.getElem?_toList]
         have := sl_of_blk (n := kk) (c := c) (F := fun i j => .int .i64 (instCell ((compI l)[i]?.getD default) j)) h1 (by omega) (by unfold maxLen; omega) (fun i hi j hj => by
          have hi2 : i < cur.length := by rw [hC.out.len, hn'.out]; omega
          have hx : (compI l)[i]? = some cur[i] := by rw [← hlow, List.getElem?_take, if_pos hi, List.getElem?_eq_getElem hi2]
          obtain ⟨k0, k1, k2⟩ := inCells_at i cur[i] (List.getElem?_eq_getElem hi2)
          rw [hat i hi j hj, hx]
          rcases j with _ | _ | _ | j
          ·rw [Nat.add_zero, k0]; simp [instCell]
          ·rw [k1]; simp [instCell]
          ·rw [k2]; simp [instCell]
          ·omega)
         unfold Insts
         rw [hlen]
         exact this)
       have dck2 : (c == kk) = false := by rw [beq_eq_false_iff_ne]; omega
       have hkn3 : kk < n := by omega
       clear hrow hO hC hK
       go_wp2_with fail
       go_ret
       exact ⟨_, rfl, hfin.out.1, hfin.out.2.mono (fun i _ h => by rw [h]; rfl)⟩
   ·have hR : Hid (compI l = l) := Lib.hid (by
     have := hno.out
     rwa [List.take_of_length_le (by rw [hn'.out]; omega)] at this)
    have hfin : Hid (Insts wr (.slice (some ⟨g, 0, none⟩) n c) l) := Lib.hid (by
     have : InstsO wr B (.slice (some ⟨g, 0, none⟩) n c) l := owns_ext hO.out hx.out
     exact this.read)
    clear hno
    go_wp2
    go_ret
    rw [hR.out]
    exact ⟨_, rfl, hfin.out, Keep.of_ext hx.out⟩
end Go.Proofs.YtgolicoalldidaaGreat
namespace Go.Proofs.YtgolicoalldidaaGreat
open Go.RowKit
attribute [local go_sem] Oper.semAt_some
theorem order_calls2 (x y : InstD) (W : World) : Calls Tryz.prog 70 #[.agg #[.int .i64 x.1, .int .i64 x.2.1, .int .i64 x.2.2], .agg #[.int .i64 y.1, .int .i64 y.2.1, .int .i64 y.2.2]] W fun e w' => e = .returned (.int .i64 (ordI x y)) ∧ Ext W w' := by
 refine (order_calls_in x y W).mono ?_
 rintro e w' ⟨rfl, q, os, rfl⟩
 refine ⟨rfl, rfl, rfl, rfl, ?_, fun k hk => ?_⟩
 ·show W.heap.size ≤ (W.heap ++ os).size
  rw [Array.size_append]
  exact Nat.le_add_right _ _
 ·show (W.heap ++ os)[k]? = _
  exact Array.getElem?_append_left hk
theorem in_true {x a b : Int} (h1 : a ≤ x) (h2 : x ≤ b) (w : World) : Calls Tryz.prog 87 #[.int .i64 x, .int .i64 a, .int .i64 b] w fun e w' => e = .returned (.bool true) ∧ Ext w w' := by
 have := in_calls x a b w
 rwa [decide_eq_true h1, decide_eq_true h2] at this
set_option maxRecDepth 100000 in
theorem endValid_calls (v : Value) (s : StreamD) (w : World) (h : StreamV w v s) (hok : StreamOk s) :
  Calls Tryz.prog 65 #[v] w fun e w' => e = .returned (.bool true) ∧ Ext w w' := by
 obtain ⟨cv, ev, rfl, hc, he⟩ := h
 have hC := Lib.hid hc
 have hE := Lib.hid he
 have hok' := Lib.hid hok
 obtain ⟨ca, cc, rfl, _, _, cat⟩ := hc.open
 obtain ⟨ea, ec, rfl, _, _, eat⟩ := he.open
 have cat' := Lib.hid cat
 have eat' := Lib.hid eat
 obtain ⟨n1, hn1⟩ : ∃ n, Hid (s.classes.length = n) := ⟨_, rfl⟩
 obtain ⟨n2, hn2⟩ : ∃ n, Hid (s.extra.length = n) := ⟨_, rfl⟩
 obtain ⟨len, hlen⟩ : ∃ n, Hid (s.len = n) := ⟨_, rfl⟩
 have b1 : n1 ≤ 1 := hn1.out ▸ hok.few
 have b2 : n2 ≤ 40 := hn2.out ▸ hok.extra
 have hl0 : 1 ≤ len := hlen.out ▸ hok.len0
 have hl1 : len ≤ 10080 := hlen.out ▸ hok.len1
 rw [hn1.out, hn2.out, hlen.out]
 have hin := Lib.hid (in_true hl0 hl1)
 have d1 : decide (64 < (n1 : Int)) = false := decide_eq_false (by omega)
 have d2 : decide (4096 < (n2 : Int)) = false := decide_eq_false (by omega)
 clear hc he cat eat hok hl0 hl1
 go_enter Tryz.func65, Tryz.ntmps65
 go_wp2_with fail
 refine (hin.out _).mono ?_
 rintro e w1 ⟨rfl, hx1⟩
 have hB : Hid (Blk w1 w.heap.size 50 #[.slice ca n1 cc, .int .i64 len, .slice ea n2 ec]) := Lib.hid ((Keep.of_ext (X := fun _ => False) hx1).blk (blk_new' rfl rfl) id)
 have hE1 := Lib.hid (show Ext w w1 from Ext.trans (by exact (by with_reducible repeat' (first | exact Ext.refl _ | assumption | refine Ext.drewN ?_ _ | refine Ext.drew ?_ | refine Ext.alloc ?_ _ | refine Ext.trans ?_ (by with_reducible assumption)))) hx1)
 have c0 : w1.cell? ⟨w.heap.size, 0, none⟩ = some (.slice ca n1 cc) := hB.out.cell 0
 have c2 : w1.cell? ⟨w.heap.size, 2, none⟩ = some (.slice ea n2 ec) := hB.out.cell 2
 have l0 := hB.out.lt
 clear hx1 hin d1
 go_wp2_with fail
 clear c0 c2 l0 d2
 go_loopw [3, 4, 27] (fun _ _ vi wr => ∃ i : Nat, i ≤ n1 ∧ vi = .int .i64 i ∧ Hid (Ext w wr) ∧ Hid (Blk wr w.heap.size 50 #[.slice ca n1 cc, .int .i64 len, .slice ea n2 ec])) (fun _ _ vi _ => n1 - (intOf vi).toNat)
 case atStart => exact ⟨0, by omega, rfl, hE1, hB⟩
 case round =>
  clear hE1 hB
  obtain ⟨i, hi, rfl, hx, hB⟩ := hrel
  by_cases h1 : i < n1
  ·obtain rfl : i = 0 := by omega
   obtain ⟨b, off, x, ta, tc, rfl, hb, ex, g0, g1, gT⟩ := cat'.out 0 (by rw [hn1.out]; exact h1) wr hx.out
   obtain ⟨hpo, hm0, hm1⟩ := hok'.out.cls x (List.mem_of_getElem? ex.out)
   obtain ⟨m, hm⟩ : ∃ m, Hid (x.minute = m) := ⟨_, rfl⟩
   rw [hm.out] at g1 hm0 hm1
   have hT := Lib.hid gT
   have hmv : Hid (∀ W, Ext wr W → Calls Tryz.prog 88 #[.agg #[.slice ta 1 tc]] W fun e w' => e = .returned (.bool true) ∧ Ext W w') := Lib.hid fun W hW => mixedValid_calls _ x.days W (hT.out.ext hW) hpo
   have hin2 : Hid (∀ W, Calls Tryz.prog 87 #[.int .i64 m, .int .i64 (-4320), .int .i64 4320] W fun e w' => e = .returned (.bool true) ∧ Ext W w') := Lib.hid fun W => in_true (by omega) (by omega) W
   simp only [Nat.zero_mul, Nat.add_zero] at g0 g1
   clear gT hpo hm0 hm1 ex
   go_upto_region 6 with (fail)
   refine wp_abs (S := fun W => Hid (Ext wr W) ∧ Hid (Blk W wr.heap.size 137 #[.slice ta 1 tc, .int .i64 m])) ?_ ?_
   ·exact ⟨Lib.hid (by exact (by with_reducible repeat' (first | exact Ext.refl _ | assumption | refine Ext.drewN ?_ _ | refine Ext.drew ?_ | refine Ext.alloc ?_ _ | refine Ext.trans ?_ (by with_reducible assumption)))), Lib.hid (blk_new' rfl rfl)⟩
   rintro W1 ⟨hx2, hK⟩
   have z0 := After.cell (show W1.cell? ⟨wr.heap.size, 0, none⟩ = some (.slice ta 1 tc) from hK.out.cell 0)
   have z1 := After.cell (show W1.cell? ⟨wr.heap.size, 1, none⟩ = some (.int .i64 m) from hK.out.cell 1)
   have hmv2 := Lib.hid fun W (x : Ext W1 W) => hmv.out W (hx2.out.trans x)
   clear g0 g1 hmv hT
   refine wp_region_after (by kernel_rfl) (by kernel_rfl) ?_
   repeat (go_big_quiet_step (first | (with_reducible exact After.call _ (hmv2.out _ (After.ext _))) | (with_reducible exact After.call _ (hin2.out _))))
   refine wpQuiet_nil ?_
   rintro _ ⟨u, rfl⟩
   have hx3 := Lib.hid (hx.out.trans (hx2.out.trans u.ext))
   have hB3 := Lib.hid ((Keep.of_ext (X := fun _ => False) (hx2.out.trans u.ext)).blk hB.out id)
   generalize u.world = V at hx3 hB3 ⊢
   clear z0 z1 hmv2 hin2 hx2 hK hx hB
   go_wp2
   go_roundw
   case rel => exact ⟨1, by omega, by go_num, hx3, hB3⟩
   case measure => simp [intOf]; omega
  ·have c2 : wr.cell? ⟨w.heap.size, 2, none⟩ = some (.slice ea n2 ec) := hB.out.cell 2
   have l0 := hB.out.lt
   obtain ⟨wA, hwA⟩ : ∃ wA, Hid (wr = wA) := ⟨_, rfl⟩
   rw [hwA.out] at hx hB c2 l0 ⊢
   clear hwA
   go_wp2_with fail
   clear c2 l0
   go_loopw [5, 6, 7, 62] (fun _ _ _ vi wr => ∃ i : Nat, i ≤ n2 ∧ vi = .int .i64 i ∧ Hid (Ext w wr) ∧ Hid (Blk wr w.heap.size 50 #[.slice ca n1 cc, .int .i64 len, .slice ea n2 ec])) (fun _ _ _ vi _ => n2 - (intOf vi).toNat)
   case atStart => exact ⟨0, by omega, rfl, hx, hB⟩
   case round =>
    clear hx hB h1 hi
    obtain ⟨k, hk, rfl, hx, hB⟩ := hrel
    rename World => wq
    by_cases h2 : k < n2
    ·obtain ⟨b, off, d, f, t, rfl, hb, _, ex, g0, g1, g2⟩ := eat'.out k (by rw [hn2.out]; exact h2) wq hx.out
     obtain ⟨o0, o1, o2, o3, o4, o5⟩ := hok'.out.each (d, f, t) (List.mem_of_getElem? ex.out)
     dsimp only at o0 o1 o2 o3 o4 o5
     have w1' : wrap64 (f + 1) = f + 1 := by unfold wrap64; omega
     have w2' : wrap64 (f + 10080) = f + 10080 := by unfold wrap64; omega
     have i1 : Hid (∀ W, Calls Tryz.prog 87 #[.int .i64 d, .int .i64 0, .int .i64 1099511627776] W fun e w' => e = .returned (.bool true) ∧ Ext W w') := Lib.hid fun W => in_true (by omega) (by omega) W
     have i2 : Hid (∀ W, Calls Tryz.prog 87 #[.int .i64 f, .int .i64 (-2251799813685248), .int .i64 1583296743997439] W fun e w' => e = .returned (.bool true) ∧ Ext W w') := Lib.hid fun W => in_true (by omega) (by omega) W
     have i3 : Hid (∀ W, Calls Tryz.prog 87 #[.int .i64 t, .int .i64 (f + 1), .int .i64 (f + 10080)] W fun e w' => e = .returned (.bool true) ∧ Ext W w') := Lib.hid fun W => in_true (by omega) (by omega) W
     clear o0 o1 o2 o3 o4 o5
     go_upto_region 12 with (fail)
     refine wp_abs (S := fun W => Hid (Ext wq W) ∧ Hid (Blk W wq.heap.size 114 #[.int .i64 d, .int .i64 f, .int .i64 t])) ?_ ?_
     ·exact ⟨Lib.hid (by exact (by with_reducible repeat' (first | exact Ext.refl _ | assumption | refine Ext.drewN ?_ _ | refine Ext.drew ?_ | refine Ext.alloc ?_ _ | refine Ext.trans ?_ (by with_reducible assumption)))), Lib.hid (blk_new' rfl rfl)⟩
     rintro W1 ⟨hx2, hI⟩
     have z0 := After.cell (show W1.cell? ⟨wq.heap.size, 0, none⟩ = some (.int .i64 d) from hI.out.cell 0)
     have z1 := After.cell (show W1.cell? ⟨wq.heap.size, 1, none⟩ = some (.int .i64 f) from hI.out.cell 1)
     have z2 := After.cell (show W1.cell? ⟨wq.heap.size, 2, none⟩ = some (.int .i64 t) from hI.out.cell 2)
     clear g0 g1 g2
     refine wp_region_after0 ?_
     repeat (go_big_quiet_step (first | (with_reducible exact After.call _ (i1.out _)) | (with_reducible exact After.call _ (i2.out _)) | (with_reducible exact After.call _ (i3.out _))))
     refine wpQuiet_nil ?_
     rintro _ ⟨u, rfl⟩
     have hx3 := Lib.hid (hx2.out.trans u.ext)
     have hI3 := Lib.hid ((Keep.of_ext (X := fun _ => False) u.ext).blk hI.out id)
     have hB3 := Lib.hid ((Keep.of_ext (X := fun _ => False) hx3.out).blk hB.out id)
     have hx4 := Lib.hid (hx.out.trans hx3.out)
     generalize u.world = V at hx3 hI3 hB3 hx4 ⊢
     clear z0 z1 z2 i1 i2 i3 hx2 hI hB w1' w2' hb
     by_cases k0 : k = 0
     ·subst k0
      go_wp2_with fail
      refine wp_region_after (by kernel_rfl) (by kernel_rfl) ?_
      repeat (go_big_quiet_step (fail))
      refine wpQuiet_nil ?_
      rintro _ ⟨u2, rfl⟩
      have hx5 := Lib.hid (hx4.out.trans u2.ext)
      have hB5 := Lib.hid ((Keep.of_ext (X := fun _ => False) u2.ext).blk hB3.out id)
      generalize u2.world = V2 at hx5 hB5 ⊢
      clear hx4 hB3 hI3 hx3 hx
      go_wp2
      go_roundw
      case rel => exact ⟨0 + 1, by omega, by go_num, hx5, hB5⟩
      case measure => simp [intOf]; omega
     ·obtain ⟨b2', off2, d2', f2', t2', e2, hb2, _, ey, y0, y1, y2⟩ := eat'.out (k - 1) (by rw [hn2.out]; omega) V hx4.out
      cases e2
      have hlt : ltI (d2', f2', t2') (d, f, t) := by
       have hp := List.pairwise_iff_getElem.1 hok'.out.order (k - 1) k (by rw [hn2.out]; omega) (by rw [hn2.out]; omega) (by omega)
       obtain ⟨q1, e1⟩ := List.getElem?_eq_some_iff.1 ey.out
       obtain ⟨q2, e2⟩ := List.getElem?_eq_some_iff.1 ex.out
       rwa [e1, e2] at hp
      obtain ⟨r, hr⟩ : ∃ r, Hid (ordI (d2', f2', t2') (d, f, t) = r) := ⟨_, rfl⟩
      have hr0 : r < 0 := by rw [← hr.out]; exact (ordI_lt _ _).2 hlt
      have hord : Hid (∀ W, Calls Tryz.prog 70 #[.agg #[.int .i64 d2', .int .i64 f2', .int .i64 t2'], .agg #[.int .i64 d, .int .i64 f, .int .i64 t]] W fun e w' => e = .returned (.int .i64 r) ∧ Ext W w') := Lib.hid fun W => by
       have := order_calls2 (d2', f2', t2') (d, f, t) W
       rw [hr.out] at this
       exact this
      have dr : decide (0 ≤ r) = false := decide_eq_false (by omega)
      have dk : decide (0 < k) = true := decide_eq_true (by omega)
      have z0 := After.cell (show V.cell? ⟨wq.heap.size, 0, none⟩ = some (.int .i64 d) from hI3.out.cell 0)
      have z1 := After.cell (show V.cell? ⟨wq.heap.size, 1, none⟩ = some (.int .i64 f) from hI3.out.cell 1)
      have z2 := After.cell (show V.cell? ⟨wq.heap.size, 2, none⟩ = some (.int .i64 t) from hI3.out.cell 2)
      have z3 := After.cell y0
      have z4 := After.cell y1
      have z5 := After.cell y2
      have z6 := After.cell (show V.cell? ⟨w.heap.size, 2, none⟩ = some (.slice (some ⟨b, off, none⟩) n2 ec) from hB3.out.cell 2)
      clear y0 y1 y2 hlt hr0 hr ey
      go_wp2_with fail
      refine wp_region_after (by kernel_rfl) (by kernel_rfl) ?_
      repeat (go_big_quiet_step (with_reducible exact After.call _ (hord.out _)))
      clear z0 z1 z2 z3 z4 z5 z6 hord
      refine wpQuiet_nil ?_
      rintro _ ⟨u2, rfl⟩
      have hx5 := Lib.hid (hx4.out.trans u2.ext)
      have hB5 := Lib.hid ((Keep.of_ext (X := fun _ => False) u2.ext).blk hB3.out id)
      generalize u2.world = V2 at hx5 hB5 ⊢
      clear hx4 hB3 hI3 hx3 hx
      go_wp2
      go_roundw
      case rel => exact ⟨k + 1, by omega, by go_num, hx5, hB5⟩
      case measure => simp [intOf]; omega
    ·go_wp2
     go_ret
     exact ⟨rfl, hx.out⟩
end Go.Proofs.YtgolicoalldidaaGreat
namespace Go.Proofs.YtgolicoalldidaaGreat
open Go.RowKit Go.Shelf
structure MarksD (w : World) (B : Nat) (W : World) (ds : List Deferred) : Prop where
 each : ∀ d ∈ ds, ∃ D, d.target = .collected D ∧ w.heap.size ≤ D ∧ D < B ∧ W.heap[D]? = some (.deferred (some []))
 apart : ds.Pairwise fun d e => d.target ≠ e.target
theorem MarksD.nil (w : World) (B : Nat) (W : World) : MarksD w B W [] := ⟨fun d h => (by cases h), List.Pairwise.nil⟩
theorem MarksD.keep {w W W' : World} {B : Nat} {ds : List Deferred} (h : MarksD w B W ds) (k : ∀ D, W.heap[D]? = some (.deferred (some [])) → D < B → W'.heap[D]? = some (.deferred (some []))) : MarksD w B W' ds :=
 ⟨fun d hd => let ⟨_, a, b, c, e⟩ := h.each d hd; ⟨_, a, b, c, k _ e c⟩, h.apart⟩
theorem MarksD.ext {w W W' : World} {B : Nat} {ds : List Deferred} (h : MarksD w B W ds) (e : Ext W W') : MarksD w B W' ds := h.keep fun _ hD _ => (e.heap (Array.getElem?_eq_some_iff.1 hD).1).trans hD
theorem MarksD.up {w W : World} {B B' : Nat} {ds : List Deferred} (h : MarksD w B W ds) (hB : B ≤ B') : MarksD w B' W ds := ⟨fun d hd => let ⟨D, a, b, c, e⟩ := h.each d hd; ⟨D, a, b, by omega, e⟩, h.apart⟩
theorem MarksD.cons {w W : World} {B D : Nat} {ds : List Deferred} (h : MarksD w B W ds) (hw : w.heap.size ≤ D) (hD : B ≤ D) (hK : W.heap[D]? = some (.deferred (some []))) : MarksD w (D + 1) W ({ target := .collected D, args := #[] } :: ds) := by
 refine ⟨fun d hd => ?_, List.Pairwise.cons (fun d hd e => ?_) h.apart⟩
 ·rcases List.mem_cons.1 hd with rfl | hd
  ·exact ⟨D, rfl, hw, by omega, hK⟩
  ·obtain ⟨D', a, b, c, e⟩ := h.each d hd
   exact ⟨D', a, b, by omega, e⟩
 ·obtain ⟨D', a, _, c, _⟩ := h.each d hd
  rw [a] at e
  cases e
  omega
theorem MarksD.turned {w W W' : World} {B : Nat} {X : Nat → Prop} {ds : List Deferred} (h : MarksD w B W ds) (k : Keep X W W') (hX : ∀ g, X g → ∀ o, W.heap[g]? = some o → o.isCells = true) : MarksD w B W' ds :=
 h.keep fun D hD _ => by
  refine (k.block D (Array.getElem?_eq_some_iff.1 hD).1 fun hx => ?_).trans hD
  have := hX D hx _ hD
  cases this
theorem postM_cells {F : Fence} {n : Nat} {P : Program} {fn : Func} {R : Ending → World → Prop} {tmps : Array Value} {w : World} {v : Value} {B : Nat} (hres : ∀ W, (results fn tmps).run P W = .ok v W) : ∀ (ds : List Deferred) (W : World), MarksD w B W ds → Ext w W →
  (∀ W', (∀ p u, W.cell? p = some u → W'.cell? p = some u) → W.heap.size ≤ W'.heap.size → Ext w W' → R (.returned v) W') → bodyPostM F n P fn R .ret { tmps := tmps, defers := ds } W
 | [], W, _, hx, hR => postM_ret (hres W) (hR W (fun _ _ h => h) (Nat.le_refl _) hx)
 | d :: ds, W, h, hx, hR => by
  obtain ⟨D, a, b, c, hK⟩ := h.each d List.mem_cons_self
  have hgr := grownBy_putObj' W D (.deferred none)
  refine ⟨by simp, .inl ⟨D, W.putObj D (.deferred none), a, run_takeDeferred hK, ?_⟩⟩
  refine postM_cells (w := w) (B := B) hres ds (W.putObj D (.deferred none)) ⟨fun e he => ?_, (List.pairwise_cons.1 h.apart).2⟩ (hx.grown hgr (fun k e => by cases e; omega)) (fun W' h1 h2 h3 => hR W' (fun p u hu => h1 p u ?_) (Nat.le_trans hgr.size h2) h3)
  ·obtain ⟨D', a', b', c', hK'⟩ := h.each e (List.mem_cons_of_mem _ he)
   have hne : D' ≠ D := fun e2 => (List.pairwise_cons.1 h.apart).1 e he (by rw [a, a', e2])
   exact ⟨D', a', b', c', (World.putObj_heap_other hne).trans hK'⟩
  ·by_cases hp : p.block = D
   ·have : W.cell? p = none := by unfold World.cell?; rw [hp, hK]
    rw [this] at hu
    cases hu
   ·exact (World.cell?_of_block (hgr.block _ (World.block_lt_of_cell? _ _ hu) (fun e => hp (Option.some.inj e)))).trans hu
theorem Sl.cells {w w' : World} {k : Nat} {v : Value} {n : Nat} {F : Nat → Nat → Value} (h : Sl w k v n F) (h1 : ∀ p u, w.cell? p = some u → w'.cell? p = some u) (h2 : w.heap.size ≤ w'.heap.size) : Sl w' k v n F := by
 obtain ⟨a, c, e, hn, hc, h3⟩ := h
 refine ⟨a, c, e, hn, hc, fun hp => ?_⟩
 obtain ⟨b, off, e1, e2, e3⟩ := h3 hp
 exact ⟨b, off, e1, by omega, fun i hi j hj => h1 _ _ (e3 i hi j hj)⟩
end Go.Proofs.YtgolicoalldidaaGreat
namespace Go.Proofs.YtgolicoalldidaaGreat
open Go.RowKit Go.Shelf
theorem opIn_roundJ {l n : Nat} {P : Program} {o : Oper} {a : Act} {w : World} {K : Act → World → Prop} {Q : Exit → Act → World → Prop} (hnd : ∀ c, o.op ≠ .defer c) (h : o.wp P a w K Q) : o.wpIn (Fence.wide.inRound l) n P a w K Q := by
 refine ⟨fun _ _ => trivial, ?_⟩
 have e : o.semAt (Fence.wide.inRound l).round a.eval = execOp a.eval o := Oper.semAt_some l a.eval o hnd
 rw [e]
 unfold Oper.wp at h
 generalize (execOp a.eval o).run P w = r at *
 cases r with
 | halt x w' =>
  cases x <;> first | exact h | exact h.elim
 | ok nx w' =>
  cases nx with
  | value v => exact h
  | skip => exact h
  | defer d => exact h
  | enter f args => exact ⟨fun x => (by cases x), CallsIn.inRound l (callsIn_wide.2 h)⟩
  | row r args => 
   refine ⟨fun x => (by cases x), fun c cs _ => ?_⟩
   obtain ⟨v, w2, x, y⟩ := h c cs
   exact ⟨v, w2, x, stepsIn_wide.2 y⟩
  | round => exact h.elim
  | _ => exact h.elim
def noDeferBJ (l : List Oper) : Bool := l.all fun o => match o.op with | .defer _ => false | _ => true
theorem wpAnyIn_roundJ {l n : Nat} {P : Program} {ops : List Oper} {md : Region.Mode} {Q : Exit → Act → World → Prop} (hQ : ¬ LetsOut Q) (hnd : noDeferBJ ops = true) :
  ∀ (fuel : Nat) (listed : Array Bool) (a : Act) (w : World), wpAny P md ops.toArray Q fuel listed a w → wpAnyIn (Fence.wide.inRound l) n P md ops.toArray Q fuel listed a w
 | 0, _, _, _, h => h
 | fuel + 1, listed, a, w, h => by
  refine ⟨h.1, fun i hi => ?_⟩
  have h2 := h.2 i hi
  unfold wpOp at h2
  unfold wpOpIn
  cases ho : ops.toArray[i]? with
  | none => rw [ho] at h2; exact wpAnyIn_roundJ hQ hnd fuel _ _ _ h2
  | some o =>
   rw [ho] at h2
   dsimp only at h2 ⊢
   have hdf : ∀ c, o.op ≠ .defer c := fun c e => by
    simp only [noDeferBJ, List.all_eq_true] at hnd
    have hm : o ∈ ops := by
     have : ops[i]? = some o := by simpa using ho
     exact List.mem_of_getElem? this
    have := hnd o hm
    rw [e] at this
    cases this
   split
   ·rename_i hw
    rw [if_pos hw] at h2
    rcases h2 with h2 | h2
    ·exact opIn_roundJ hdf (Oper.wp_mono (fun a w x => wpAnyIn_roundJ hQ hnd fuel _ a w x) h2)
    ·exact absurd h2.2 hQ
   ·rename_i hw
    rw [if_neg hw] at h2
    exact ⟨fun _ _ => trivial, wpAnyIn_roundJ hQ hnd fuel _ _ _ h2⟩
theorem wpIn_region_held {l' nn : Nat} {P : Program} {id : Nat} {Q : Exit → Act → World → Prop} {a : Act} {w : World} {l : List Oper} (qs hs ts : List Nat) (Con : Nat → Value → World → Prop) (hm : P.follows .mixedOrders = true) (hB : heldAllB l qs hs ts = true) (hnd : noDeferBJ l = true)
  (h : wpQuiet P l.toArray (fun _ => True) (fun a' => heldLex P l.toArray .any w Con (heldPost P l ts Q w) hs a' HSt.none) (pickL l qs) a) : (Code.region id l.toArray true).wpIn (Fence.wide.inRound l') nn P Q a w := by
 simp only [heldAllB, Bool.and_eq_true, beq_iff_eq] at hB
 obtain ⟨⟨⟨⟨⟨ht, hp⟩, hin⟩, hint⟩, hb⟩, hlen⟩ := hB
 have hsel : Region.noSelect l.toArray = true := by
  simp only [heldB, Bool.and_eq_true] at hb
  exact hb.1.1.1.1
 refine wpIn_mono (Q := OnlyNormal Q) (wpIn_region_any hm (wpAnyIn_roundJ (by rintro ⟨_, _, hq⟩; exact hq) hnd _ _ _ _ ?_)) OnlyNormal.imp
 have := wpAny_takes (P := P) (w0 := w) (Q := OnlyNormal Q) hsel (fun c d v a w h => h) (hs.length + ts.length) qs (listed0 l) a ht hp hin (wpQuiet_imp (fun a' x => wpAny_held (Q := OnlyNormal Q) hb (pickL_map hint)
  (heldLex_imp (fun a s y W hW hf htk => y W hW hf htk (OnlyNormal Q) (fun _ _ z => z)) hs _ _ x)) _ _ h) { w with drawn := w.drawn + 1 } ((Ext.refl w).drew)
 rw [hlen] at this
 simpa [listed0] using this
end Go.Proofs.YtgolicoalldidaaGreat
