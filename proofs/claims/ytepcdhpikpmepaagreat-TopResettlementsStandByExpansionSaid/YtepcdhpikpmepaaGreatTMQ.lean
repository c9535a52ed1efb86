/- Walks of cmp.Or, endless.order, and of the sort at instances. -/
import Derived.Test.YtepcdhpikpmepaaGreatYAQ
import Derived.Test.YtepcdhpikpmepaaGreatYSQ
import Derived.Test.YtepcdhpikpmepaaGreatTMAQ
import Derived.StillTailTactics
namespace Go.Proofs.YtepcdhpikpmepaaGreat
open Go.RowKit

/-! ### the flat row -/
theorem flat_in (l : List InstD) : Sort.flatK inEnc 3 l.toArray = (inCells l).toArray := by
 refine Sort.ext_get! (by simp [inCells_len]) fun t ht => ?_
 have ht' : t < l.length * 3 := by simpa using ht
 rw [Sort.get_flatK _ _ _ _ (by simpa using ht')]
 have hi : t / 3 < l.length := by omega
 obtain ⟨h0, h1, h2⟩ := inCells_at (t / 3) l[t / 3] (List.getElem?_eq_getElem hi)
 have e : l.toArray[t / 3]! = l[t / 3] := by simp [hi]
 rw [e]
 have hm : t % 3 = 0 ∨ t % 3 = 1 ∨ t % 3 = 2 := by omega
 have g : ∀ v, (inCells l)[t]? = some v → (inCells l).toArray[t]! = v := fun v hv => by simp [hv]
 rcases hm with h | h | h
 ·rw [show t / 3 * 3 = t by omega] at h0; rw [g _ h0, h]; rfl
 ·rw [show t / 3 * 3 + 1 = t by omega] at h1; rw [g _ h1, h]; rfl
 ·rw [show t / 3 * 3 + 2 = t by omega] at h2; rw [g _ h2, h]; rfl
theorem holds_in {w : World} {B g c : Nat} {l : List InstD} (h : InstsO w B (.slice (some ⟨g, 0, none⟩) l.length c) l) : Sort.HoldsK inEnc 3 w g 0 l.toArray := by
 unfold Sort.HoldsK
 rw [flat_in]
 intro j hj
 have hj' : j < l.length * 3 := by simpa [inCells_len] using hj
 rw [Nat.zero_add]
 refine ⟨?_, h.frozenAt j⟩
 rw [h.cellAt j hj']
 have hl : j < (inCells l).length := by rw [inCells_len]; exact hj'
 simp [hl]

/-! ### the comparison -/
def orI (a b c : Int) : Int := if a ≠ 0 then a else if b ≠ 0 then b else c
def ordI (x y : InstD) : Int := orI (cmpI x.2.1 y.2.1) (cmpI x.1 y.1) (cmpI x.2.2 y.2.2)
set_option maxHeartbeats 800000 in
theorem or_calls (g : Nat) (a b c : Int) (w : World) (h : Blk w g 3 #[.int .i64 a, .int .i64 b, .int .i64 c]) :
  Calls Tryz.prog 79 #[.slice (some ⟨g, 0, none⟩) 3 3] w fun e w' => e = .returned (.int .i64 (orI a b c)) ∧ w' = w := by
 have c0 : w.cell? ⟨g, 0, none⟩ = some (.int .i64 a) := h.cell 0
 have c1 : w.cell? ⟨g, 1, none⟩ = some (.int .i64 b) := h.cell 1
 have c2 : w.cell? ⟨g, 2, none⟩ = some (.int .i64 c) := h.cell 2
 have gl := h.lt
 have hcell : ∀ i : Nat, i < 3 → w.cell? ⟨g, i, none⟩ = some (.int .i64 (if i = 0 then a else if i = 1 then b else c)) := fun i hi => by
  obtain rfl | rfl | rfl : i = 0 ∨ i = 1 ∨ i = 2 := by omega
  ·exact c0
  ·exact c1
  ·exact c2
 have hcell' := Lib.hid hcell
 clear h c0 c1 c2 hcell
 go_enter Tryz.func79, Tryz.ntmps79
 go_wp2_with fail
 go_loopw [2, 5, 8] (fun _ _ vi wr => ∃ i : Nat, i ≤ 3 ∧ vi = .int .i64 i ∧ wr = w ∧ Hid (∀ j, j < i → (if j = 0 then a else if j = 1 then b else c) = 0)) (fun _ _ vi _ => 3 - (intOf vi).toNat)
 case atStart => exact ⟨0, by omega, rfl, rfl, Lib.hid fun j hj => by omega⟩
 case round =>
  obtain ⟨i, hi, rfl, hwr, hz⟩ := hrel
  subst hwr
  by_cases h1 : i < 3
  ·have k0 := hcell'.out i h1
   have di : decide ((i : Int) < 3) = true := decide_eq_true (by omega)
   obtain ⟨x, hx⟩ : ∃ x, Hid ((if i = 0 then a else if i = 1 then b else c) = x) := ⟨_, rfl⟩
   rw [hx.out] at k0
   by_cases h0 : x = 0
   ·have d0 : (x != 0) = false := by simp [h0]
    have hz' : Hid (∀ j, j < i + 1 → (if j = 0 then a else if j = 1 then b else c) = 0) := Lib.hid fun j hj => by
     rcases Nat.lt_succ_iff_lt_or_eq.1 hj with h | rfl
     ·exact hz.out j h
     ·rw [hx.out]; exact h0
    clear h0 hx hz
    go_wp2
    go_roundw
    case rel => first | exact ⟨i + 1, by omega, by go_num, rfl, hz'⟩ | exact ⟨i + 1, by omega, by go_num, trivial, hz'⟩
    case measure => simp [intOf]; omega
   ·have d0 : (x != 0) = true := by simp [h0]
    have R : Hid (orI a b c = x) := Lib.hid (by
     unfold orI
     obtain rfl | rfl | rfl : i = 0 ∨ i = 1 ∨ i = 2 := by omega
     ·have := hx.out
      simp at this
      rw [if_pos (by rw [this]; exact h0), this]
     ·have h := hz.out 0 (by omega)
      have := hx.out
      simp at this h
      rw [if_neg (by simp [h]), if_pos (by rw [this]; exact h0), this]
     ·have h := hz.out 0 (by omega)
      have h' := hz.out 1 (by omega)
      have := hx.out
      simp at this h h'
      rw [if_neg (by simp [h]), if_neg (by simp [h']), this])
    clear h0 hx hz
    go_wp2
    go_ret
    rw [R.out]
    exact ⟨rfl, rfl⟩
  ·have R : Hid (orI a b c = 0) := Lib.hid (by
    have h := hz.out 0 (by omega)
    have h' := hz.out 1 (by omega)
    have h2 := hz.out 2 (by omega)
    simp at h h' h2
    unfold orI
    rw [if_neg (by simp [h]), if_neg (by simp [h']), h2])
   have di : decide ((i : Int) < 3) = false := decide_eq_false (by omega)
   clear hz
   go_wp2
   go_ret
   rw [R.out]
   exact ⟨rfl, rfl⟩
set_option maxHeartbeats 3200000 in
set_option maxRecDepth 100000 in
theorem order_calls_in (x y : InstD) (W : World) : Calls Tryz.prog 56 #[.agg (inEnc x).toArray, .agg (inEnc y).toArray] W fun e w' => e = .returned (.int .i64 (ordI x y)) ∧ ∃ q os', w' = Sort.grow (W.drewN q) os' := by
 obtain ⟨xd, xf, xt⟩ := x
 obtain ⟨yd, yf, yt⟩ := y
 have k1 := fun V => compare_calls xf yf V
 have k2 := fun V => compare_calls xd yd V
 have k3 := fun V => compare_calls xt yt V
 show Calls Tryz.prog 56 #[.agg #[.int .i64 xd, .int .i64 xf, .int .i64 xt], .agg #[.int .i64 yd, .int .i64 yf, .int .i64 yt]] W _
 have R : Hid (ordI (xd, xf, xt) (yd, yf, yt) = orI (cmpI xf yf) (cmpI xd yd) (cmpI xt yt)) := Lib.hid rfl
 rw [R.out]
 clear R
 generalize cmpI xf yf = r1 at k1 ⊢
 generalize cmpI xd yd = r2 at k2 ⊢
 generalize cmpI xt yt = r3 at k3 ⊢
 go_enter Tryz.func56, Tryz.ntmps56
 go_upto_region 1 with (fail)
 obtain ⟨V, hV⟩ : ∃ V, Hid ((W.alloc (.cells #[.int .i64 xd, .int .i64 xf, .int .i64 xt] 105)).alloc (.cells #[.int .i64 yd, .int .i64 yf, .int .i64 yt] 105) = V) := ⟨_, rfl⟩
 rw [hV.out]
 have hA : Blk V W.heap.size 105 #[.int .i64 xd, .int .i64 xf, .int .i64 xt] := by rw [← hV.out]; exact Blk.alloc (blk_new' rfl rfl) _
 have hB : Blk V (W.heap.size + 1) 105 #[.int .i64 yd, .int .i64 yf, .int .i64 yt] := by rw [← hV.out]; exact blk_new' (by rw [World.size_alloc]) rfl
 have a0 : V.cell? ⟨W.heap.size, 0, none⟩ = some (.int .i64 xd) := hA.cell 0
 have a1 : V.cell? ⟨W.heap.size, 1, none⟩ = some (.int .i64 xf) := hA.cell 1
 have a2 : V.cell? ⟨W.heap.size, 2, none⟩ = some (.int .i64 xt) := hA.cell 2
 have al := hA.lt
 have b0 : V.cell? ⟨W.heap.size + 1, 0, none⟩ = some (.int .i64 yd) := hB.cell 0
 have b1 : V.cell? ⟨W.heap.size + 1, 1, none⟩ = some (.int .i64 yf) := hB.cell 1
 have b2 : V.cell? ⟨W.heap.size + 1, 2, none⟩ = some (.int .i64 yt) := hB.cell 2
 have bl := hB.lt
 clear hA hB
 refine wp_region_still_tail 19 (by kernel_rfl) (by kernel_rfl) ?_
 simp only [List.take_succ_cons, List.take_zero, List.drop_succ_cons, List.drop_zero]
 iterate 6 still_step
 still_call (k1 _)
 iterate 4 still_step
 still_call (k2 _)
 iterate 6 still_step
 still_call (k3 _)
 refine wpStill_nil ?_
 clear a0 a1 a2 al b0 b1 b2 bl k1 k2 k3
 obtain ⟨V2, hV2⟩ : ∃ V2 : World, Hid (({ heap := V.heap, tape := V.tape, drawn := V.drawn + 1, os := V.os, output := V.output } : World) = V2) := ⟨_, rfl⟩
 rw [hV2.out]
 go_wp2_with fail
 refine (or_calls V2.heap.size r1 r2 r3 _ (blk_new' rfl rfl)).mono ?_
 rintro e w1 ⟨rfl, rfl⟩
 go_wp2
 go_ret
 refine ⟨rfl, 1, (#[.cells #[.int .i64 xd, .int .i64 xf, .int .i64 xt] 105 (0, 0)] ++ #[.cells #[.int .i64 yd, .int .i64 yf, .int .i64 yt] 105 (0, 0)]) ++ #[.cells #[.int .i64 r1, .int .i64 r2, .int .i64 r3] 3 (0, 0)], ?_⟩
 rw [← Sort.grow_grow, ← Sort.grow_grow, Sort.alloc_eq_grow, ← hV2.out, ← hV.out, Sort.alloc_eq_grow, Sort.alloc_eq_grow]
 rfl
theorem cmpI_lt (x y : Int) : cmpI x y < 0 ↔ x < y := by
 unfold cmpI
 split
 ·omega
 ·split <;> omega
theorem cmpI_zero (x y : Int) : cmpI x y = 0 ↔ x = y := by
 unfold cmpI
 split
 ·omega
 ·split <;> omega
theorem ordI_lt (x y : InstD) : ordI x y < 0 ↔ ltI x y := by
 unfold ordI orI ltI
 have h1 := cmpI_lt x.2.1 y.2.1
 have h2 := cmpI_lt x.1 y.1
 have h3 := cmpI_lt x.2.2 y.2.2
 have e1 := cmpI_zero x.2.1 y.2.1
 have e2 := cmpI_zero x.1 y.1
 split
 ·omega
 ·split <;> omega
theorem in_lt (x y : InstD) : ltOf ordI x y = decide (ltI x y) := by
 have h := ordI_lt x y
 unfold ltOf
 by_cases hl : ltI x y
 ·rw [decide_eq_true hl]
  simp [h.2 hl]
 ·rw [decide_eq_false hl]
  have : ¬ ordI x y < 0 := fun e => hl (h.1 e)
  simp; omega
theorem in_swo : Sort.SWO (ltOf ordI) where
 irrefl x := by rw [in_lt]; simp [ltI]
 trans x y z h1 h2 := by rw [in_lt, decide_eq_true_eq] at *; unfold ltI at *; omega
 ntrans x y z h1 h2 := by rw [in_lt, decide_eq_false_iff_not] at *; unfold ltI at *; omega
theorem sortedI_of {d : Array InstD} (h : Sort.SortedIn (ltOf ordI) 0 d.size d) : SortedI d.toList := by
 unfold SortedI
 rw [List.pairwise_iff_getElem]
 intro i j hi hj hij
 have hi' : i < d.size := by simpa using hi
 have hj' : j < d.size := by simpa using hj
 have := h i j (Nat.zero_le _) hij hj'
 rw [in_lt, getElem!_pos d j hj', getElem!_pos d i hi', decide_eq_false_iff_not] at this
 simpa using this
set_option maxHeartbeats 1000000 in
theorem sortIn_calls (w : World) (B : Nat) (v : Value) (l : List InstD) (h : InstsO w B v l) (hl : l.length ≤ 1000000) :
  Calls Tryz.prog 55 #[v, .func (.func 56) #[] #[]] w fun e w' =>
   e = .returned (.tuple #[]) ∧ InstsO w' B v (sortI l) ∧ Keep (fun k => v.ownBlock = some k) w w' := by
 cases l with
 | nil =>
  obtain ⟨A, c, rfl⟩ := owns_form h
  have hcon := AnyF.slices_SortFunc_none Tryz.sortInYtepcdhpikpmepaaGreat A c (.func (.func 56) #[] #[]) w
  change Calls Tryz.prog 55 _ _ _ at hcon
  refine hcon.mono ?_
  rintro e w' ⟨rfl, rfl⟩
  exact ⟨rfl, h, Keep.of_ext (Ext.refl _)⟩
 | cons x r =>
  obtain ⟨g, c, rfl⟩ : ∃ g c, v = .slice (some ⟨g, 0, none⟩) (x :: r).length c := by
   rcases h.2 with ⟨_, h0⟩ | ⟨g, cap, cur, rfl, _⟩
   ·simp at h0
   ·exact ⟨_, _, rfl⟩
  generalize hxl : x :: r = l at *
  have eg : ∀ args w, (callFunc 56 args).run Tryz.prog w = .ok (.enter 56 args) w := enters_of Tryz.func56 (by kernel_rfl) rfl
  have hcon := AnyQ.slices_SortFunc Tryz.sortInYtepcdhpikpmepaaGreat 3 Tryz.isAgg105 Tryz.sizeOf105 inEnc (fun _ => rfl) (fun x v hv => by simp [inEnc] at hv; rcases hv with rfl | rfl | rfl <;> rfl) ordI in_swo 56 #[] g 0 c l.toArray w eg
   (fun _ _ _ _ x y => order_calls_in x y _) (holds_in h) ((h.lt g rfl).2) (by simp; omega)
  change Calls Tryz.prog 55 _ _ _ at hcon
  rw [List.size_toArray] at hcon
  refine hcon.mono ?_
  rintro e w' ⟨rfl, d', n, os, hp, hs, rfl⟩
  obtain ⟨h1, _, h3⟩ := hp
  have hsz : d'.size = l.length := by simpa using h1
  rw [← hsz] at hs
  have hperm : d'.toList.Perm l := by
   have e1 : d'.extract 0 l.length = d' := by rw [← hsz]; simp
   have e2 : l.toArray.extract 0 l.length = l.toArray := by simp
   rw [e1, e2] at h3
   simpa using h3
  have hd : d'.toList = sortI l := sortedI_unique (hperm.trans (sortI_perm l).symm) (sortedI_of hs) (sortI_sorted l)
  refine ⟨rfl, ?_, ?_⟩
  ·have ho := owns_put h (Sort.flatK inEnc 3 d') (by rw [Sort.size_flatK, hsz]) n os
   have e : Sort.flatK inEnc 3 d' = (inCells d'.toList).toArray := by
    have := flat_in d'.toList
    simpa using this
   unfold InstsO
   rw [(sortI_perm l).length_eq, ← hd]
   unfold sortWorldK Sort.putRowK
   rw [e] at ho ⊢
   exact ho
  ·have hk := keep_put w g (Sort.flatK inEnc 3 d') n os
   exact hk.mono (fun k _ hk => by rw [hk]; rfl)
end Go.Proofs.YtepcdhpikpmepaaGreat
