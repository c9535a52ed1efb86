/- Merged parts: RightA, RightB, RightC, Check. -/
import Derived.Test.YtepcdhpikpmepaaGreatPHQ
import Derived.Test.YtepcdhpikpmepaaGreatPGQ
/- Walks of the check: right, its short cases. -/
namespace Go.Proofs.YtepcdhpikpmepaaGreat
open Go.RowKit

def kidsR (g : Int → Int → OptD → Bool) : Int → List Int → List OptD → Bool
 | i, k :: ks, o :: os => g i k o && kidsR g (i + 1) ks os
 | _, _, _ => true
def rightP (t : List WishD) (bound : Int) (c : List NodeD) : Nat → List Int → Int → Nat → Int → Bool
 | 0, _, _, _, _ => false
 | f + 1, dec, lst, at_, harm =>
  match c[at_]? with
  | none => false
  | some n =>
   if n.wish = -1 then (n.kids.length == 0) && closedB t bound dec lst n.clA n.clB harm
   else if idxB n.wish t.length = false then false
   else match t[n.wish.toNat]? with
    | none => false
    | some x =>
     if 0 ≤ decAt dec n.wish ∨ n.clA ≠ 0 ∨ n.clB ≠ 0 ∨ n.kids.length ≠ x.opts.length then false
     else kidsR (fun i kid o => rightP t bound c f (dec.set n.wish.toNat i) (lst - leastB x) kid.toNat (harm + o.harm)) 0 n.kids x.opts

structure RightIn (w0 w : World) (K D : Nat) (tv cv : Value) (t : List WishD) (bound : Int) (c : List NodeD) (dec : List Int) (lst : Int) (f at_ : Nat) (harm : Int) : Prop where
 chk : Chk w0 w K D tv cv t bound c dec lst
 task : TaskIn t
 harms : ∀ x ∈ t, ∀ o ∈ x.opts, 0 ≤ o.harm ∧ o.harm ≤ 1000000
 dec : DecOk t dec
 kids : ∀ (i : Nat) (n : NodeD), c[i]? = some n → ∀ k ∈ n.kids, (i : Int) < k ∧ k < c.length
 few : c.length ≤ 65536
 lt : at_ < c.length
 fuel : c.length ≤ at_ + f
 h0 : 0 ≤ harm
 h1 : harm ≤ 1000000 * at_
 l0 : -1000000 * (at_ : Int) ≤ lst
 l1 : lst ≤ 1000000000
def RightOut (w0 w : World) (K D : Nat) (tv cv : Value) (t : List WishD) (bound : Int) (c : List NodeD) (dec : List Int) (lst : Int) (r : Bool) (e : Ending) (w' : World) : Prop :=
 e = .returned (.bool r) ∧ Keep (fun g => g = K ∨ g = D) w w' ∧ (r = true → Chk w0 w' K D tv cv t bound c dec lst)


set_option maxHeartbeats 1600000 in
set_option maxRecDepth 100000 in
theorem right_leaf (w0 w : World) (K D : Nat) (tv cv : Value) (t : List WishD) (bound : Int) (c : List NodeD) (dec : List Int) (lst : Int) (f at_ : Nat) (harm : Int) (n : NodeD)
  (H : RightIn w0 w K D tv cv t bound c dec lst (f + 1) at_ harm) (hn : c[at_]? = some n) (hw : n.wish = -1) :
  Calls Tryz.prog 23 #[.pointer (some ⟨K, 0, none⟩), .int .i64 at_, .int .i64 harm] w (RightOut w0 w K D tv cv t bound c dec lst (rightP t bound c (f + 1) dec lst at_ harm)) := by
 have hH := Lib.hid H
 have hnn := Lib.hid hn
 obtain ⟨ta, tc, rfl, _, _, hat⟩ := H.chk.wishes.open
 obtain ⟨ca, cc, rfl, hcn, hcc, hca⟩ := H.chk.nodes.open
 obtain ⟨b1, o1, n', ka, kc, rfl, hb1, _, en, g0, g1, g2, g3, gk⟩ := hca at_ H.lt w H.chk.ext
 obtain rfl : n = n' := Option.some.inj (hn.symm.trans en.out)
 have k0 : w.cell? ⟨K, 0, none⟩ = some (.slice ta t.length tc) := H.chk.blk.cell 0
 have k2 : w.cell? ⟨K, 2, none⟩ = some (.slice (some ⟨b1, o1, none⟩) c.length cc) := H.chk.blk.cell 2
 have k3 : w.cell? ⟨K, 3, none⟩ = some (.slice (some ⟨D, 0, none⟩) dec.length dec.length) := H.chk.blk.cell 3
 have k4 : w.cell? ⟨K, 4, none⟩ = some (.int .i64 lst) := H.chk.blk.cell 4
 have hKw : K < w.heap.size := H.chk.blk.lt
 have hDw : D < w.heap.size := H.chk.db.lt
 have hlt := H.lt
 have hfew := H.few
 have hh0 := H.h0
 have hh1 := H.h1
 have hl0 := H.l0
 have hl1 := H.l1
 have hatw := Lib.hid hat
 have hgk := Lib.hid gk
 clear H hn hat hca en gk
 obtain ⟨nw, nk, nA, nB⟩ := n
 simp only at *
 subst hw
 by_cases hk : nk.length = 0
 ·have R : Hid (rightP t bound c (f + 1) dec lst at_ harm = closedB t bound dec lst nA nB harm) := by show _ = _; simp [rightP, hnn.out, hk]
  have hk' : ((nk.length : Int) == 0) = true := by simpa using hk
  go_enter Tryz.func23, Tryz.ntmps23
  go_wp2_with fail
  refine (closed_calls w0 _ K D _ _ t bound c dec lst (-1) nA nB harm _ (hH.out.chk.toExt ((Ext.refl w).alloc _)) hH.out.dec hH.out.task (by omega) (by omega)).mono ?_
  rintro e w1 ⟨rfl, hx⟩
  generalize closedB t bound dec lst nA nB harm = cb at *
  go_wp2
  go_ret
  rw [R.out]
  exact ⟨rfl, Keep.of_ext (((Ext.refl w).alloc _).trans hx), fun _ => hH.out.chk.toExt (((Ext.refl w).alloc _).trans hx)⟩
 ·have R : Hid (rightP t bound c (f + 1) dec lst at_ harm = false) := by show _ = _; simp [rightP, hnn.out, hk]
  have hk' : ((nk.length : Int) == 0) = false := by simpa using hk
  go_enter Tryz.func23, Tryz.ntmps23
  go_wp2
  go_ret
  rw [R.out]
  exact ⟨rfl, (Keep.refl _ _).alloc _, fun h => by cases h⟩


set_option maxHeartbeats 1600000 in
set_option maxRecDepth 100000 in
theorem right_idx (w0 w : World) (K D : Nat) (tv cv : Value) (t : List WishD) (bound : Int) (c : List NodeD) (dec : List Int) (lst : Int) (f at_ : Nat) (harm : Int) (n : NodeD)
  (H : RightIn w0 w K D tv cv t bound c dec lst (f + 1) at_ harm) (hn : c[at_]? = some n) (hw : n.wish ≠ -1) (hi : idxB n.wish t.length = false) :
  Calls Tryz.prog 23 #[.pointer (some ⟨K, 0, none⟩), .int .i64 at_, .int .i64 harm] w (RightOut w0 w K D tv cv t bound c dec lst (rightP t bound c (f + 1) dec lst at_ harm)) := by
 have hH := Lib.hid H
 have hnn := Lib.hid hn
 obtain ⟨ta, tc, rfl, _, _, hat⟩ := H.chk.wishes.open
 obtain ⟨ca, cc, rfl, hcn, hcc, hca⟩ := H.chk.nodes.open
 obtain ⟨b1, o1, n', ka, kc, rfl, hb1, _, en, g0, g1, g2, g3, gk⟩ := hca at_ H.lt w H.chk.ext
 obtain rfl : n = n' := Option.some.inj (hn.symm.trans en.out)
 have k0 : w.cell? ⟨K, 0, none⟩ = some (.slice ta t.length tc) := H.chk.blk.cell 0
 have k2 : w.cell? ⟨K, 2, none⟩ = some (.slice (some ⟨b1, o1, none⟩) c.length cc) := H.chk.blk.cell 2
 have k3 : w.cell? ⟨K, 3, none⟩ = some (.slice (some ⟨D, 0, none⟩) dec.length dec.length) := H.chk.blk.cell 3
 have k4 : w.cell? ⟨K, 4, none⟩ = some (.int .i64 lst) := H.chk.blk.cell 4
 have hKw : K < w.heap.size := H.chk.blk.lt
 have hDw : D < w.heap.size := H.chk.db.lt
 have hlt := H.lt
 have hfew := H.few
 have hh0 := H.h0
 have hh1 := H.h1
 have hl0 := H.l0
 have hl1 := H.l1
 have hatw := Lib.hid hat
 have hgk := Lib.hid gk
 clear H hn hat hca en gk
 obtain ⟨nw, nk, nA, nB⟩ := n
 simp only at *
 have hw' : (nw == -1) = false := by simpa using hw
 have R : Hid (rightP t bound c (f + 1) dec lst at_ harm = false) := by show _ = _; simp [rightP, hnn.out, hw, hi]
 have hI1 : Hid (∀ W, Calls Tryz.prog 44 #[.int .i64 nw, .int .i64 t.length] W fun e w' => e = .returned (.bool false) ∧ Ext W w') := fun W => by have := index_calls nw t.length W; rwa [hi] at this
 clear hw hi
 go_enter Tryz.func23, Tryz.ntmps23
 go_wp2_with fail
 refine wp_abs (S := fun W => Ext w W ∧ W.cell? ⟨w.heap.size, 0, none⟩ = some (.int .i64 nw) ∧ W.cell? ⟨w.heap.size, 1, none⟩ = some (.slice ka nk.length kc) ∧ W.cell? ⟨w.heap.size, 2, none⟩ = some (.int .i64 nA) ∧ W.cell? ⟨w.heap.size, 3, none⟩ = some (.int .i64 nB)) ⟨by exact (by with_reducible repeat' (first | exact Ext.refl _ | assumption | refine Ext.drewN ?_ _ | refine Ext.drew ?_ | refine Ext.alloc ?_ _ | refine Ext.trans ?_ (by with_reducible assumption))), by simp, by simp, by simp, by simp⟩ ?_
 rintro W ⟨hx, n0, n1, n2, n3⟩
 have m0 := After.cell n0
 have m2 := After.cell n2
 have m3 := After.cell n3
 have d0 := After.cell (hx.cell k0)
 have d3 := After.cell (hx.cell k3)
 go_wp2_with fail
 refine wp_region_after (by kernel_rfl) (by kernel_rfl) ?_
 repeat (go_big_quiet_step (exact After.call _ (by first | (with_reducible exact hI1.out _) | exact hcl.out _ (After.ext _))))
 refine wpQuiet_nil ?_
 rintro _ ⟨z, rfl⟩
 go_wp2
 go_ret
 rw [R.out]
 exact ⟨rfl, Keep.of_ext (hx.trans z.ext), fun h => by cases h⟩

set_option maxHeartbeats 1600000 in
set_option maxRecDepth 100000 in
theorem right_decided (w0 w : World) (K D : Nat) (tv cv : Value) (t : List WishD) (bound : Int) (c : List NodeD) (dec : List Int) (lst : Int) (f at_ : Nat) (harm : Int) (n : NodeD)
  (H : RightIn w0 w K D tv cv t bound c dec lst (f + 1) at_ harm) (hn : c[at_]? = some n) (hw : n.wish ≠ -1) (hi : idxB n.wish t.length = true) (hd : 0 ≤ decAt dec n.wish) :
  Calls Tryz.prog 23 #[.pointer (some ⟨K, 0, none⟩), .int .i64 at_, .int .i64 harm] w (RightOut w0 w K D tv cv t bound c dec lst (rightP t bound c (f + 1) dec lst at_ harm)) := by
 have hH := Lib.hid H
 have hnn := Lib.hid hn
 obtain ⟨ta, tc, rfl, _, _, hat⟩ := H.chk.wishes.open
 obtain ⟨ca, cc, rfl, hcn, hcc, hca⟩ := H.chk.nodes.open
 obtain ⟨b1, o1, n', ka, kc, rfl, hb1, _, en, g0, g1, g2, g3, gk⟩ := hca at_ H.lt w H.chk.ext
 obtain rfl : n = n' := Option.some.inj (hn.symm.trans en.out)
 have k0 : w.cell? ⟨K, 0, none⟩ = some (.slice ta t.length tc) := H.chk.blk.cell 0
 have k2 : w.cell? ⟨K, 2, none⟩ = some (.slice (some ⟨b1, o1, none⟩) c.length cc) := H.chk.blk.cell 2
 have k3 : w.cell? ⟨K, 3, none⟩ = some (.slice (some ⟨D, 0, none⟩) dec.length dec.length) := H.chk.blk.cell 3
 have k4 : w.cell? ⟨K, 4, none⟩ = some (.int .i64 lst) := H.chk.blk.cell 4
 have hKw : K < w.heap.size := H.chk.blk.lt
 have hDw : D < w.heap.size := H.chk.db.lt
 have hlt := H.lt
 have hfew := H.few
 have hh0 := H.h0
 have hh1 := H.h1
 have hl0 := H.l0
 have hl1 := H.l1
 have hatw := Lib.hid hat
 have hgk := Lib.hid gk
 clear H hn hat hca en gk
 obtain ⟨nw, nk, nA, nB⟩ := n
 simp only at *
 have hI1 : Hid (∀ W, Calls Tryz.prog 44 #[.int .i64 nw, .int .i64 t.length] W fun e w' => e = .returned (.bool true) ∧ Ext W w') := fun W => by have := index_calls nw t.length W; rwa [hi] at this
 obtain ⟨m, rfl, hm⟩ := idxB_nat hi
 have hw' : ((m : Int) == -1) = false := by rw [beq_eq_false_iff_ne]; omega
 have hdl := hH.out.dec.1
 obtain ⟨dm, hdm⟩ : ∃ d, dec[m]? = some d := ⟨dec[m], List.getElem?_eq_getElem (by omega)⟩
 have hdv : decAt dec m = dm := by simp [decAt, hdm]
 have l0 : w.cell? ⟨D, m, none⟩ = some (.int .i64 dm) := by
  rw [hH.out.chk.db.cell m]; simp [hdm]
 have hml : m < dec.length := by omega
 have e0 := After.cell l0
 rw [hdv] at hd
 have R : Hid (rightP t bound c (f + 1) dec lst at_ harm = false) := by
  show _ = _
  obtain ⟨x, hx⟩ : ∃ x, t[m]? = some x := ⟨t[m], List.getElem?_eq_getElem hm⟩
  simp [rightP, hnn.out, hw, hi, hx, hdv, hd]
 clear hw hi hdm hdv e0
 go_enter Tryz.func23, Tryz.ntmps23
 go_wp2_with fail
 refine wp_abs (S := fun W => Ext w W ∧ W.cell? ⟨w.heap.size, 0, none⟩ = some (.int .i64 (m:Int)) ∧ W.cell? ⟨w.heap.size, 1, none⟩ = some (.slice ka nk.length kc) ∧ W.cell? ⟨w.heap.size, 2, none⟩ = some (.int .i64 nA) ∧ W.cell? ⟨w.heap.size, 3, none⟩ = some (.int .i64 nB)) ⟨by exact (by with_reducible repeat' (first | exact Ext.refl _ | assumption | refine Ext.drewN ?_ _ | refine Ext.drew ?_ | refine Ext.alloc ?_ _ | refine Ext.trans ?_ (by with_reducible assumption))), by simp, by simp, by simp, by simp⟩ ?_
 rintro W ⟨hx, n0, n1, n2, n3⟩
 have m0 := After.cell n0
 have m2 := After.cell n2
 have m3 := After.cell n3
 have d0 := After.cell (hx.cell k0)
 have d3 := After.cell (hx.cell k3)
 go_wp2_with fail
 have e0 := After.cell (hx.cell l0)
 refine wp_region_after (by kernel_rfl) (by kernel_rfl) ?_
 repeat (go_big_quiet_step (exact After.call _ (by first | (with_reducible exact hI1.out _) | exact hcl.out _ (After.ext _))))
 refine wpQuiet_nil ?_
 rintro _ ⟨z, rfl⟩
 go_wp2
 go_ret
 rw [R.out]
 exact ⟨rfl, Keep.of_ext (hx.trans z.ext), fun h => by cases h⟩
set_option maxHeartbeats 1600000 in
set_option maxRecDepth 100000 in
theorem right_clA (w0 w : World) (K D : Nat) (tv cv : Value) (t : List WishD) (bound : Int) (c : List NodeD) (dec : List Int) (lst : Int) (f at_ : Nat) (harm : Int) (n : NodeD)
  (H : RightIn w0 w K D tv cv t bound c dec lst (f + 1) at_ harm) (hn : c[at_]? = some n) (hw : n.wish ≠ -1) (hi : idxB n.wish t.length = true) (hd : decAt dec n.wish < 0) (hA : n.clA ≠ 0) :
  Calls Tryz.prog 23 #[.pointer (some ⟨K, 0, none⟩), .int .i64 at_, .int .i64 harm] w (RightOut w0 w K D tv cv t bound c dec lst (rightP t bound c (f + 1) dec lst at_ harm)) := by
 have hH := Lib.hid H
 have hnn := Lib.hid hn
 obtain ⟨ta, tc, rfl, _, _, hat⟩ := H.chk.wishes.open
 obtain ⟨ca, cc, rfl, hcn, hcc, hca⟩ := H.chk.nodes.open
 obtain ⟨b1, o1, n', ka, kc, rfl, hb1, _, en, g0, g1, g2, g3, gk⟩ := hca at_ H.lt w H.chk.ext
 obtain rfl : n = n' := Option.some.inj (hn.symm.trans en.out)
 have k0 : w.cell? ⟨K, 0, none⟩ = some (.slice ta t.length tc) := H.chk.blk.cell 0
 have k2 : w.cell? ⟨K, 2, none⟩ = some (.slice (some ⟨b1, o1, none⟩) c.length cc) := H.chk.blk.cell 2
 have k3 : w.cell? ⟨K, 3, none⟩ = some (.slice (some ⟨D, 0, none⟩) dec.length dec.length) := H.chk.blk.cell 3
 have k4 : w.cell? ⟨K, 4, none⟩ = some (.int .i64 lst) := H.chk.blk.cell 4
 have hKw : K < w.heap.size := H.chk.blk.lt
 have hDw : D < w.heap.size := H.chk.db.lt
 have hlt := H.lt
 have hfew := H.few
 have hh0 := H.h0
 have hh1 := H.h1
 have hl0 := H.l0
 have hl1 := H.l1
 have hatw := Lib.hid hat
 have hgk := Lib.hid gk
 clear H hn hat hca en gk
 obtain ⟨nw, nk, nA, nB⟩ := n
 simp only at *
 have hI1 : Hid (∀ W, Calls Tryz.prog 44 #[.int .i64 nw, .int .i64 t.length] W fun e w' => e = .returned (.bool true) ∧ Ext W w') := fun W => by have := index_calls nw t.length W; rwa [hi] at this
 obtain ⟨m, rfl, hm⟩ := idxB_nat hi
 have hw' : ((m : Int) == -1) = false := by rw [beq_eq_false_iff_ne]; omega
 have hdl := hH.out.dec.1
 obtain ⟨dm, hdm⟩ : ∃ d, dec[m]? = some d := ⟨dec[m], List.getElem?_eq_getElem (by omega)⟩
 have hdv : decAt dec m = dm := by simp [decAt, hdm]
 have l0 : w.cell? ⟨D, m, none⟩ = some (.int .i64 dm) := by
  rw [hH.out.chk.db.cell m]; simp [hdm]
 have hml : m < dec.length := by omega
 have e0 := After.cell l0
 rw [hdv] at hd
 have hd' : decide (0 ≤ dm) = false := by simp; omega
 have R : Hid (rightP t bound c (f + 1) dec lst at_ harm = false) := by
  show _ = _
  obtain ⟨x, hx⟩ : ∃ x, t[m]? = some x := ⟨t[m], List.getElem?_eq_getElem hm⟩
  simp [rightP, hnn.out, hw, hi, hx, hA]
 have hA' : (nA == 0) = false := by simpa using hA
 have hA2 : (nA != 0) = true := by simpa using hA
 clear hw hi hdm hdv e0 hA
 go_enter Tryz.func23, Tryz.ntmps23
 go_wp2_with fail
 refine wp_abs (S := fun W => Ext w W ∧ W.cell? ⟨w.heap.size, 0, none⟩ = some (.int .i64 (m:Int)) ∧ W.cell? ⟨w.heap.size, 1, none⟩ = some (.slice ka nk.length kc) ∧ W.cell? ⟨w.heap.size, 2, none⟩ = some (.int .i64 nA) ∧ W.cell? ⟨w.heap.size, 3, none⟩ = some (.int .i64 nB)) ⟨by exact (by with_reducible repeat' (first | exact Ext.refl _ | assumption | refine Ext.drewN ?_ _ | refine Ext.drew ?_ | refine Ext.alloc ?_ _ | refine Ext.trans ?_ (by with_reducible assumption))), by simp, by simp, by simp, by simp⟩ ?_
 rintro W ⟨hx, n0, n1, n2, n3⟩
 have m0 := After.cell n0
 have m2 := After.cell n2
 have m3 := After.cell n3
 have d0 := After.cell (hx.cell k0)
 have d3 := After.cell (hx.cell k3)
 go_wp2_with fail
 have e0 := After.cell (hx.cell l0)
 refine wp_region_after (by kernel_rfl) (by kernel_rfl) ?_
 repeat (go_big_quiet_step (exact After.call _ (by first | (with_reducible exact hI1.out _) | exact hcl.out _ (After.ext _))))
 refine wpQuiet_nil ?_
 rintro _ ⟨z, rfl⟩
 go_wp2
 go_ret
 rw [R.out]
 exact ⟨rfl, Keep.of_ext (hx.trans z.ext), fun h => by cases h⟩
set_option maxHeartbeats 1600000 in
set_option maxRecDepth 100000 in
theorem right_clB (w0 w : World) (K D : Nat) (tv cv : Value) (t : List WishD) (bound : Int) (c : List NodeD) (dec : List Int) (lst : Int) (f at_ : Nat) (harm : Int) (n : NodeD)
  (H : RightIn w0 w K D tv cv t bound c dec lst (f + 1) at_ harm) (hn : c[at_]? = some n) (hw : n.wish ≠ -1) (hi : idxB n.wish t.length = true) (hd : decAt dec n.wish < 0) (hA : n.clA = 0) (hB : n.clB ≠ 0) :
  Calls Tryz.prog 23 #[.pointer (some ⟨K, 0, none⟩), .int .i64 at_, .int .i64 harm] w (RightOut w0 w K D tv cv t bound c dec lst (rightP t bound c (f + 1) dec lst at_ harm)) := by
 have hH := Lib.hid H
 have hnn := Lib.hid hn
 obtain ⟨ta, tc, rfl, _, _, hat⟩ := H.chk.wishes.open
 obtain ⟨ca, cc, rfl, hcn, hcc, hca⟩ := H.chk.nodes.open
 obtain ⟨b1, o1, n', ka, kc, rfl, hb1, _, en, g0, g1, g2, g3, gk⟩ := hca at_ H.lt w H.chk.ext
 obtain rfl : n = n' := Option.some.inj (hn.symm.trans en.out)
 have k0 : w.cell? ⟨K, 0, none⟩ = some (.slice ta t.length tc) := H.chk.blk.cell 0
 have k2 : w.cell? ⟨K, 2, none⟩ = some (.slice (some ⟨b1, o1, none⟩) c.length cc) := H.chk.blk.cell 2
 have k3 : w.cell? ⟨K, 3, none⟩ = some (.slice (some ⟨D, 0, none⟩) dec.length dec.length) := H.chk.blk.cell 3
 have k4 : w.cell? ⟨K, 4, none⟩ = some (.int .i64 lst) := H.chk.blk.cell 4
 have hKw : K < w.heap.size := H.chk.blk.lt
 have hDw : D < w.heap.size := H.chk.db.lt
 have hlt := H.lt
 have hfew := H.few
 have hh0 := H.h0
 have hh1 := H.h1
 have hl0 := H.l0
 have hl1 := H.l1
 have hatw := Lib.hid hat
 have hgk := Lib.hid gk
 clear H hn hat hca en gk
 obtain ⟨nw, nk, nA, nB⟩ := n
 simp only at *
 have hI1 : Hid (∀ W, Calls Tryz.prog 44 #[.int .i64 nw, .int .i64 t.length] W fun e w' => e = .returned (.bool true) ∧ Ext W w') := fun W => by have := index_calls nw t.length W; rwa [hi] at this
 obtain ⟨m, rfl, hm⟩ := idxB_nat hi
 have hw' : ((m : Int) == -1) = false := by rw [beq_eq_false_iff_ne]; omega
 have hdl := hH.out.dec.1
 obtain ⟨dm, hdm⟩ : ∃ d, dec[m]? = some d := ⟨dec[m], List.getElem?_eq_getElem (by omega)⟩
 have hdv : decAt dec m = dm := by simp [decAt, hdm]
 have l0 : w.cell? ⟨D, m, none⟩ = some (.int .i64 dm) := by
  rw [hH.out.chk.db.cell m]; simp [hdm]
 have hml : m < dec.length := by omega
 have e0 := After.cell l0
 rw [hdv] at hd
 have hd' : decide (0 ≤ dm) = false := by simp; omega
 subst hA
 have R : Hid (rightP t bound c (f + 1) dec lst at_ harm = false) := by
  show _ = _
  obtain ⟨x, hx⟩ : ∃ x, t[m]? = some x := ⟨t[m], List.getElem?_eq_getElem hm⟩
  simp [rightP, hnn.out, hw, hi, hx, hB]
 have hB' : (nB == 0) = false := by simpa using hB
 clear hw hi hdm hdv e0 hB
 go_enter Tryz.func23, Tryz.ntmps23
 go_wp2_with fail
 refine wp_abs (S := fun W => Ext w W ∧ W.cell? ⟨w.heap.size, 0, none⟩ = some (.int .i64 (m:Int)) ∧ W.cell? ⟨w.heap.size, 1, none⟩ = some (.slice ka nk.length kc) ∧ W.cell? ⟨w.heap.size, 2, none⟩ = some (.int .i64 0) ∧ W.cell? ⟨w.heap.size, 3, none⟩ = some (.int .i64 nB)) ⟨by exact (by with_reducible repeat' (first | exact Ext.refl _ | assumption | refine Ext.drewN ?_ _ | refine Ext.drew ?_ | refine Ext.alloc ?_ _ | refine Ext.trans ?_ (by with_reducible assumption))), by simp, by simp, by simp, by simp⟩ ?_
 rintro W ⟨hx, n0, n1, n2, n3⟩
 have m0 := After.cell n0
 have m2 := After.cell n2
 have m3 := After.cell n3
 have d0 := After.cell (hx.cell k0)
 have d3 := After.cell (hx.cell k3)
 go_wp2_with fail
 have e0 := After.cell (hx.cell l0)
 refine wp_region_after (by kernel_rfl) (by kernel_rfl) ?_
 repeat (go_big_quiet_step (exact After.call _ (by first | (with_reducible exact hI1.out _) | exact hcl.out _ (After.ext _))))
 refine wpQuiet_nil ?_
 rintro _ ⟨z, rfl⟩
 go_wp2
 go_ret
 rw [R.out]
 exact ⟨rfl, Keep.of_ext (hx.trans z.ext), fun h => by cases h⟩
end Go.Proofs.YtepcdhpikpmepaaGreat

/- Walks of the check: right, a node that decides a wish. -/
namespace Go.Proofs.YtepcdhpikpmepaaGreat
open Go.RowKit


set_option maxHeartbeats 1600000 in
set_option maxRecDepth 100000 in
theorem right_len (w0 w : World) (K D : Nat) (tv cv : Value) (t : List WishD) (bound : Int) (c : List NodeD) (dec : List Int) (lst : Int) (f at_ : Nat) (harm : Int) (n : NodeD)
  (H : RightIn w0 w K D tv cv t bound c dec lst (f + 1) at_ harm) (hn : c[at_]? = some n) (hw : n.wish ≠ -1) (hi : idxB n.wish t.length = true) (hd : decAt dec n.wish < 0) (hA : n.clA = 0) (hB : n.clB = 0) (x : WishD) (hx : t[n.wish.toNat]? = some x) (hl : n.kids.length ≠ x.opts.length) :
  Calls Tryz.prog 23 #[.pointer (some ⟨K, 0, none⟩), .int .i64 at_, .int .i64 harm] w (RightOut w0 w K D tv cv t bound c dec lst (rightP t bound c (f + 1) dec lst at_ harm)) := by
 have hH := Lib.hid H
 have hnn := Lib.hid hn
 obtain ⟨ta, tc, rfl, _, _, hat⟩ := H.chk.wishes.open
 obtain ⟨ca, cc, rfl, hcn, hcc, hca⟩ := H.chk.nodes.open
 obtain ⟨b1, o1, n', ka, kc, rfl, hb1', _, en, g0', g1', g2', g3', gk⟩ := hca at_ H.lt w0 (Ext.refl _)
 have g0 := H.chk.ext.cell g0'
 have g1 := H.chk.ext.cell g1'
 have g2 := H.chk.ext.cell g2'
 have g3 := H.chk.ext.cell g3'
 have hb1 : b1 < w.heap.size := Nat.lt_of_lt_of_le hb1' H.chk.ext.size
 clear g0' g1' g2' g3' hb1'
 obtain rfl : n = n' := Option.some.inj (hn.symm.trans en.out)
 have k0 : w.cell? ⟨K, 0, none⟩ = some (.slice ta t.length tc) := H.chk.blk.cell 0
 have k2 : w.cell? ⟨K, 2, none⟩ = some (.slice (some ⟨b1, o1, none⟩) c.length cc) := H.chk.blk.cell 2
 have k3 : w.cell? ⟨K, 3, none⟩ = some (.slice (some ⟨D, 0, none⟩) dec.length dec.length) := H.chk.blk.cell 3
 have k4 : w.cell? ⟨K, 4, none⟩ = some (.int .i64 lst) := H.chk.blk.cell 4
 have hKw : K < w.heap.size := H.chk.blk.lt
 have hDw : D < w.heap.size := H.chk.db.lt
 have hlt := H.lt
 have hfew := H.few
 have hh0 := H.h0
 have hh1 := H.h1
 have hl0 := H.l0
 have hl1 := H.l1
 have hatw := Lib.hid hat
 have hgk := Lib.hid gk
 clear H hn hat hca en gk
 obtain ⟨nw, nk, nA, nB⟩ := n
 simp only at *
 have hI1 : Hid (∀ W, Calls Tryz.prog 44 #[.int .i64 nw, .int .i64 t.length] W fun e w' => e = .returned (.bool true) ∧ Ext W w') := fun W => by have := index_calls nw t.length W; rwa [hi] at this
 obtain ⟨m, rfl, hm⟩ := idxB_nat hi
 have hw' : ((m : Int) == -1) = false := by rw [beq_eq_false_iff_ne]; omega
 have hdl := hH.out.dec.1
 obtain ⟨dm, hdm⟩ : ∃ d, dec[m]? = some d := ⟨dec[m], List.getElem?_eq_getElem (by omega)⟩
 have hdv : decAt dec m = dm := by simp [decAt, hdm]
 have l0 : w.cell? ⟨D, m, none⟩ = some (.int .i64 dm) := by
  rw [hH.out.chk.db.cell m]; simp [hdm]
 have hml : m < dec.length := by omega
 have e0 := After.cell l0
 have hd1 : dm < 0 := by rw [hdv] at hd; exact hd
 have hd' : decide (0 ≤ dm) = false := by simp; omega
 subst hA hB
 obtain ⟨b2, o2, x', xa, xc, oa, oc, rfl, hb2', _, ex, w0'', w1'', w2'', gp, go⟩ := hatw.out m hm w0 (Ext.refl _)
 have w0' := hH.out.chk.ext.cell w0''
 have w1' := hH.out.chk.ext.cell w1''
 have w2' := hH.out.chk.ext.cell w2''
 have hb2 : b2 < w.heap.size := Nat.lt_of_lt_of_le hb2' hH.out.chk.ext.size
 have hgo := Lib.hid go
 have hgp := Lib.hid gp
 clear w0'' w1'' w2'' hb2' go gp
 obtain rfl : x = x' := Option.some.inj (hx.symm.trans ex.out)
 have hl' : ((nk.length : Int) != (x.opts.length : Int)) = true := by rw [bne_iff_ne]; omega
 have R : Hid (rightP t bound c (f + 1) dec lst at_ harm = false) := by
  show _ = _
  have hx' : t[m]? = some x := hx
  simp [rightP, hnn.out, hw, hi, hx', hl]
 clear hw hi hdm hdv e0 hx hd hl
 go_enter Tryz.func23, Tryz.ntmps23
 go_wp2_with fail
 refine wp_abs (S := fun W => Ext w W ∧ W.cell? ⟨w.heap.size, 0, none⟩ = some (.int .i64 (m:Int)) ∧ W.cell? ⟨w.heap.size, 1, none⟩ = some (.slice ka nk.length kc) ∧ W.cell? ⟨w.heap.size, 2, none⟩ = some (.int .i64 0) ∧ W.cell? ⟨w.heap.size, 3, none⟩ = some (.int .i64 0)) ⟨by exact (by with_reducible repeat' (first | exact Ext.refl _ | assumption | refine Ext.drewN ?_ _ | refine Ext.drew ?_ | refine Ext.alloc ?_ _ | refine Ext.trans ?_ (by with_reducible assumption))), by simp, by simp, by simp, by simp⟩ ?_
 rintro W ⟨hx, n0, n1, n2, n3⟩
 have m0 := After.cell n0
 have m2 := After.cell n2
 have m3 := After.cell n3
 have d0 := After.cell (hx.cell k0)
 have d3 := After.cell (hx.cell k3)
 go_wp2_with fail
 have e0 := After.cell (hx.cell l0)
 refine wp_region_after (by kernel_rfl) (by kernel_rfl) ?_
 repeat (go_big_quiet_step (exact After.call _ (by first | (with_reducible exact hI1.out _) | exact hcl.out _ (After.ext _))))
 refine wpQuiet_nil ?_
 rintro _ ⟨z, rfl⟩
 go_step; go_step
 refine wp_abs (S := fun W' => Ext W W') z.ext ?_
 clear z m0 m2 m3 d0 d3 e0
 intro W2 hx2
 have hxx := hx.trans hx2
 have v0 := hx2.cell n0
 have v1 := hx2.cell n1
 have vK := hxx.cell k0
 have vx0 := hxx.cell w0'
 have vx1 := hxx.cell w1'
 have vx2 := hxx.cell w2'
 have sz2 := hxx.size
 have hwW : w.heap.size < W2.heap.size := World.block_lt_of_cell? _ _ v0
 have hb22 : b2 < W2.heap.size := by omega
 have hK2 : K < W2.heap.size := by omega
 go_wp2_with fail
 go_region
 go_step; go_step
 go_wp2
 go_ret
 rw [R.out]
 exact ⟨rfl, Keep.of_ext ((hxx.alloc _).drew), fun h => by cases h⟩
end Go.Proofs.YtepcdhpikpmepaaGreat

/- Walks of the check: right, a node that decides a wish. -/
namespace Go.Proofs.YtepcdhpikpmepaaGreat
open Go.RowKit

theorem DecOk.set_ {t : List WishD} {dec : List Int} (h : DecOk t dec) {m : Nat} {x : WishD} (hx : t[m]? = some x) {d : Int} (h1 : -1 ≤ d) (h2 : d < x.opts.length) : DecOk t (dec.set m d) := by
 refine ⟨by rw [List.length_set]; exact h.1, fun i y e hy he => ?_⟩
 by_cases hi : m = i
 ·subst hi
  rw [hx] at hy; cases hy
  rw [List.getElem?_set_self' ] at he
  cases hd : dec[m]? with
  | none => simp [hd] at he
  | some v => simp [hd] at he; omega
 ·rw [List.getElem?_set_ne hi] at he
  exact h.2 i y e hy he


set_option maxHeartbeats 3200000 in
set_option maxRecDepth 100000 in
theorem right_node (w0 w : World) (K D : Nat) (tv cv : Value) (t : List WishD) (bound : Int) (c : List NodeD) (dec : List Int) (lst : Int) (f at_ : Nat) (harm : Int) (n : NodeD)
  (ih : ∀ (w : World) (dec : List Int) (lst : Int) (at_ : Nat) (harm : Int), RightIn w0 w K D tv cv t bound c dec lst f at_ harm →
   Calls Tryz.prog 23 #[.pointer (some ⟨K, 0, none⟩), .int .i64 at_, .int .i64 harm] w (RightOut w0 w K D tv cv t bound c dec lst (rightP t bound c f dec lst at_ harm)))
  (H : RightIn w0 w K D tv cv t bound c dec lst (f + 1) at_ harm) (hn : c[at_]? = some n) (hw : n.wish ≠ -1) (hi : idxB n.wish t.length = true) (hd : decAt dec n.wish < 0) (hA : n.clA = 0) (hB : n.clB = 0) (x : WishD) (hx : t[n.wish.toNat]? = some x) (hl : n.kids.length = x.opts.length) :
  Calls Tryz.prog 23 #[.pointer (some ⟨K, 0, none⟩), .int .i64 at_, .int .i64 harm] w (RightOut w0 w K D tv cv t bound c dec lst (rightP t bound c (f + 1) dec lst at_ harm)) := by
 have hH := Lib.hid H
 have hih := Lib.hid ih
 clear ih
 have hnn := Lib.hid hn
 obtain ⟨ta, tc, rfl, _, _, hat⟩ := H.chk.wishes.open
 obtain ⟨ca, cc, rfl, hcn, hcc, hca⟩ := H.chk.nodes.open
 obtain ⟨b1, o1, n', ka, kc, rfl, hb1', _, en, g0', g1', g2', g3', gk⟩ := hca at_ H.lt w0 (Ext.refl _)
 have g0 := H.chk.ext.cell g0'
 have g1 := H.chk.ext.cell g1'
 have g2 := H.chk.ext.cell g2'
 have g3 := H.chk.ext.cell g3'
 have hb1 : b1 < w.heap.size := Nat.lt_of_lt_of_le hb1' H.chk.ext.size
 clear g0' g1' g2' g3' hb1'
 obtain rfl : n = n' := Option.some.inj (hn.symm.trans en.out)
 have k0 : w.cell? ⟨K, 0, none⟩ = some (.slice ta t.length tc) := H.chk.blk.cell 0
 have k2 : w.cell? ⟨K, 2, none⟩ = some (.slice (some ⟨b1, o1, none⟩) c.length cc) := H.chk.blk.cell 2
 have k3 : w.cell? ⟨K, 3, none⟩ = some (.slice (some ⟨D, 0, none⟩) dec.length dec.length) := H.chk.blk.cell 3
 have k4 : w.cell? ⟨K, 4, none⟩ = some (.int .i64 lst) := H.chk.blk.cell 4
 have hKw : K < w.heap.size := H.chk.blk.lt
 have hDw : D < w.heap.size := H.chk.db.lt
 have hlt := H.lt
 have hfew := H.few
 have hh0 := H.h0
 have hh1 := H.h1
 have hl0 := H.l0
 have hl1 := H.l1
 have hatw := Lib.hid hat
 have hgk := Lib.hid gk
 clear H hn hat hca en gk
 obtain ⟨nw, nk, nA, nB⟩ := n
 simp only at *
 have hI1 : Hid (∀ W, Calls Tryz.prog 44 #[.int .i64 nw, .int .i64 t.length] W fun e w' => e = .returned (.bool true) ∧ Ext W w') := fun W => by have := index_calls nw t.length W; rwa [hi] at this
 obtain ⟨m, rfl, hm⟩ := idxB_nat hi
 have hw' : ((m : Int) == -1) = false := by rw [beq_eq_false_iff_ne]; omega
 have hdl := hH.out.dec.1
 obtain ⟨dm, hdm⟩ : ∃ d, dec[m]? = some d := ⟨dec[m], List.getElem?_eq_getElem (by omega)⟩
 have hdv : decAt dec m = dm := by simp [decAt, hdm]
 have l0 : w.cell? ⟨D, m, none⟩ = some (.int .i64 dm) := by
  rw [hH.out.chk.db.cell m]; simp [hdm]
 have hml : m < dec.length := by omega
 have e0 := After.cell l0
 have hd1 : dm < 0 := by rw [hdv] at hd; exact hd
 have hd' : decide (0 ≤ dm) = false := by simp; omega
 subst hA hB
 obtain ⟨b2, o2, x', xa, xc, oa, oc, rfl, hb2', _, ex, w0'', w1'', w2'', gp, go⟩ := hatw.out m hm w0 (Ext.refl _)
 have w0' := hH.out.chk.ext.cell w0''
 have w1' := hH.out.chk.ext.cell w1''
 have w2' := hH.out.chk.ext.cell w2''
 have hb2 : b2 < w.heap.size := Nat.lt_of_lt_of_le hb2' hH.out.chk.ext.size
 have hgo := Lib.hid go
 have hgp := Lib.hid gp
 clear w0'' w1'' w2'' hb2' go gp
 obtain rfl : x = x' := Option.some.inj (hx.symm.trans ex.out)
 have hl' : ((nk.length : Int) != (x.opts.length : Int)) = false := by rw [bne_eq_false_iff_eq]; omega
 have hxt : Hid (t[m]? = some x) := hx
 have hdm1 : Hid (dm = -1) := by
  have := (hH.out.dec.2 m x dm hxt.out hdm).1
  show _ = _; omega
 have hdecm : Hid (dec.set m (-1) = dec) := by
  show _ = _
  rw [← hdm1.out]
  have e := List.getElem?_eq_some_iff.1 hdm
  obtain ⟨e1, e2⟩ := e
  rw [← e2, List.set_getElem_self]
 have R : Hid (rightP t bound c (f + 1) dec lst at_ harm = kidsR (fun i kid o => rightP t bound c f (dec.set m i) (lst - leastB x) kid.toNat (harm + o.harm)) 0 nk x.opts) := by
  show _ = _
  have hx' : t[m]? = some x := hx
  simp [rightP, hnn.out, hw, hi, hx', hl, hdv]
  omega
 have hle := leastSum_bd [x] (fun y hy o ho => by simp at hy; subst hy; exact (hH.out.harms y (List.mem_of_getElem? ex.out) o ho).1)
 have hlx0 : 0 ≤ leastB x := by have := hle.1; simpa [leastSum] using this
 have hlx1 : leastB x ≤ 1000000 := by have := hle.2; simpa [leastSum] using this
 clear hle hw hi hdm hdv e0 hx hd
 have hll := Lib.hid hl
 clear hl
 go_enter Tryz.func23, Tryz.ntmps23
 go_wp2_with fail
 refine wp_abs (S := fun W => Ext w W ∧ W.cell? ⟨w.heap.size, 0, none⟩ = some (.int .i64 (m:Int)) ∧ W.cell? ⟨w.heap.size, 1, none⟩ = some (.slice ka nk.length kc) ∧ W.cell? ⟨w.heap.size, 2, none⟩ = some (.int .i64 0) ∧ W.cell? ⟨w.heap.size, 3, none⟩ = some (.int .i64 0)) ⟨by exact (by with_reducible repeat' (first | exact Ext.refl _ | assumption | refine Ext.drewN ?_ _ | refine Ext.drew ?_ | refine Ext.alloc ?_ _ | refine Ext.trans ?_ (by with_reducible assumption))), by simp, by simp, by simp, by simp⟩ ?_
 rintro W ⟨hx, n0, n1, n2, n3⟩
 have m0 := After.cell n0
 have m2 := After.cell n2
 have m3 := After.cell n3
 have d0 := After.cell (hx.cell k0)
 have d3 := After.cell (hx.cell k3)
 go_wp2_with fail
 have e0 := After.cell (hx.cell l0)
 refine wp_region_after (by kernel_rfl) (by kernel_rfl) ?_
 repeat (go_big_quiet_step (exact After.call _ (by first | (with_reducible exact hI1.out _) | exact hcl.out _ (After.ext _))))
 refine wpQuiet_nil ?_
 rintro _ ⟨z, rfl⟩
 go_step; go_step
 refine wp_abs (S := fun W' => Ext W W') z.ext ?_
 clear z m0 m2 m3 d0 d3 e0
 intro W2 hx2
 have hxx := hx.trans hx2
 have v0 := hx2.cell n0
 have v1 := hx2.cell n1
 have vK := hxx.cell k0
 have vx0 := hxx.cell w0'
 have vx1 := hxx.cell w1'
 have vx2 := hxx.cell w2'
 have sz2 := hxx.size
 have hwW : w.heap.size < W2.heap.size := World.block_lt_of_cell? _ _ v0
 have hb22 : b2 < W2.heap.size := by omega
 have hK2 : K < W2.heap.size := by omega
 go_wp2_with fail
 go_region
 go_step; go_step
 have hE23 := (((Ext.refl W2).alloc (Obj.cells #[Value.int IntKind.i64 x.meeting, Value.slice xa x.people.length xc, Value.slice oa x.opts.length oc] 67))).drew
 refine wp_abs (S := fun W3 => Ext w W3 ∧ W3.cell? ⟨w.heap.size, 0, none⟩ = some (.int .i64 (m : Int)) ∧ W3.cell? ⟨w.heap.size, 1, none⟩ = some (.slice ka nk.length kc) ∧ W3.cell? ⟨W2.heap.size, 0, none⟩ = some (.int .i64 x.meeting) ∧
  W3.cell? ⟨W2.heap.size, 1, none⟩ = some (.slice xa x.people.length xc) ∧ W3.cell? ⟨W2.heap.size, 2, none⟩ = some (.slice oa x.opts.length oc)) ⟨(hxx.alloc _).drew, hE23.cell v0, hE23.cell v1, by simp, by simp, by simp⟩ ?_
 clear hE23
 rintro W3 ⟨hE3, n0', n1', p0, p1, p2⟩
 obtain ⟨B8, hB8⟩ : ∃ B8, Hid (W2.heap.size = B8) := ⟨_, rfl⟩
 have hB8w : w.heap.size < B8 := by rw [← hB8.out]; exact hwW
 rw [hB8.out] at p0 p1 p2 ⊢
 have hEE := Lib.hid hE3
 have aK4 := After.cell (hE3.cell k4)
 have a0 := After.cell p0
 have a1 := After.cell p1
 have a2 := After.cell p2
 have hx03 := Lib.hid (hH.out.chk.ext.trans hE3)
 have hcl : Hid (∀ W, Ext W3 W → Calls Tryz.prog 22 #[.agg #[.int .i64 x.meeting, .slice xa x.people.length xc, .slice oa x.opts.length oc]] W
       fun e w' => e = .returned (.int .i64 (leastB x)) ∧ Ext W w') := fun W hW => least_calls _ x W ⟨_, _, rfl, hgp.out.ext (hx03.out.trans hW), hgo.out.ext (hx03.out.trans hW)⟩
 obtain ⟨lx, hlx⟩ : ∃ lx, Hid (leastB x = lx) := ⟨_, rfl⟩
 rw [hlx.out] at hcl hlx0 hlx1 R
 clear n0 n1 n2 n3 v0 v1 vK vx0 vx1 vx2 hx hx2 hxx hE3 hwW hb22 hK2
 go_wp2_with fail
 refine wp_region_tail 7 (by kernel_rfl) (by kernel_rfl) ?_
 simp only [List.take_succ_cons, List.take_zero, List.drop_succ_cons, List.drop_zero]
 repeat (go_big_quiet_step ((exact After.call _ (hcl.out _ (After.ext _)))))
 refine wpQuiet_nil ?_
 rintro _ ⟨y, rfl⟩
 have hy := y.ext
 generalize y.world = W4 at hy ⊢
 have hE4 := Lib.hid (hEE.out.trans hy)
 have q4 := hE4.out.cell k4
 have hC4 := Lib.hid (hH.out.chk.toExt hE4.out)
 have fr4 : W4.frozen? ⟨K, 4, none⟩ = false := hC4.out.blk.frozen 4
 have n1'' : (W4.setCell ⟨K, 4, none⟩ (.int .i64 (lst - lx))).cell? ⟨w.heap.size, 1, none⟩ = some (.slice ka nk.length kc) := by
  rw [World.cell?_setCell_other _ _ _ _ (by simp; try omega)]; exact hy.cell n1'
 have n0'' : (W4.setCell ⟨K, 4, none⟩ (.int .i64 (lst - lx))).cell? ⟨w.heap.size, 0, none⟩ = some (.int .i64 (m : Int)) := by
  rw [World.cell?_setCell_other _ _ _ _ (by simp; try omega)]; exact hy.cell n0'
 have p0'' : (W4.setCell ⟨K, 4, none⟩ (.int .i64 (lst - lx))).cell? ⟨B8, 0, none⟩ = some (.int .i64 x.meeting) := by
  rw [World.cell?_setCell_other _ _ _ _ (by simp; try omega)]; exact hy.cell p0
 have p1'' : (W4.setCell ⟨K, 4, none⟩ (.int .i64 (lst - lx))).cell? ⟨B8, 1, none⟩ = some (.slice xa x.people.length xc) := by
  rw [World.cell?_setCell_other _ _ _ _ (by simp; try omega)]; exact hy.cell p1
 have p2'' : (W4.setCell ⟨K, 4, none⟩ (.int .i64 (lst - lx))).cell? ⟨B8, 2, none⟩ = some (.slice oa x.opts.length oc) := by
  rw [World.cell?_setCell_other _ _ _ _ (by simp; try omega)]; exact hy.cell p2
 have hC5 := Lib.hid (hC4.out.setLst (lst - lx))
 have hk5 : Hid (Keep (fun g => g = K ∨ g = D) w (W4.setCell ⟨K, 4, none⟩ (.int .i64 (lst - lx)))) := Lib.hid ((Keep.of_ext hE4.out).setCell (Or.inl (Or.inl rfl)) _)
 obtain ⟨g, hg⟩ : ∃ g : Int → Int → OptD → Bool, Hid ((fun i kid o => rightP t bound c f (dec.set m i) (lst - lx) kid.toNat (harm + o.harm)) = g) := ⟨_, rfl⟩
 rw [hg.out] at R
 have hnp := Lib.hid n0''
 have hpp := Lib.hid (And.intro p0'' (And.intro p1'' p2''))
 clear n0'' p0'' p1'' p2'' n0' n1' p0 p1 p2 a0 a1 a2 aK4
 have hxl : nk.length ≤ 9223372036854775807 := hgk.out.len
 go_wp2_with fail
 have hW5 : ∃ W5, Hid (W4.setCell ⟨K, 4, none⟩ (.int .i64 (lst - lx)) = W5) := ⟨_, rfl⟩
 obtain ⟨W5, hW5⟩ := hW5
 rw [hW5.out] at hnp hpp hC5 hk5 ⊢
 go_loopw [9, 10, 90] (fun v9 v10 vi wr => ∃ (i : Nat) (d0 : Int), i ≤ nk.length ∧ vi = .int .i64 i ∧ Hid (Chk w0 wr K D (.slice (some ⟨b2, o2, none⟩) t.length tc) (.slice (some ⟨b1, o1, none⟩) c.length cc) t bound c (dec.set m d0) (lst - lx)) ∧ Hid (Keep (fun g => g = K ∨ g = D) W5 wr) ∧
  Hid (rightP t bound c (f + 1) dec lst at_ harm = kidsR g i (nk.drop i) (x.opts.drop i))) (fun _ _ vi _ => nk.length - (intOf vi).toNat)
 case atStart => exact ⟨0, -1, by omega, rfl, by rw [hdecm.out]; exact hC5, Lib.hid (Keep.refl _ _), R⟩
 case round =>
  obtain ⟨i, d0, hi, rfl, hC, hK, hRi⟩ := hrel
  have hxw := Lib.hid hC.out.ext
  have hbD := hH.out.chk.bD
  have hbK := hH.out.chk.bK
  have hws : w0.heap.size ≤ w.heap.size := hH.out.chk.ext.size
  have kn0 := hK.out.cell hnp.out (by rintro (e | e) <;> (simp at e; omega))
  have kp0 := hK.out.cell hpp.out.1 (by rintro (e | e) <;> (simp at e; omega))
  have kp1 := hK.out.cell hpp.out.2.1 (by rintro (e | e) <;> (simp at e; omega))
  have kp2 := hK.out.cell hpp.out.2.2 (by rintro (e | e) <;> (simp at e; omega))
  have kk3 : wr.cell? ⟨K, 3, none⟩ = some (.slice (some ⟨D, 0, none⟩) dec.length dec.length) := by
   have := hC.out.blk.cell 3
   rw [this, List.length_set]; rfl
  have hKD := hC.out.ne
  have hdl : dec.length = t.length := hH.out.dec.1
  have dfr : wr.frozen? ⟨D, m, none⟩ = false := hC.out.db.frozen _
  by_cases h1 : i < nk.length
  ·obtain ⟨b3, o3, kid, rfl, hb3, dk, ek, c1⟩ := hgk.out.at_.1 i h1 wr hxw.out
   obtain ⟨b4, o4, o, sa, sc, rfl, hb4, do_, eo, r1, r2, r3, _⟩ := hgo.out.at_.1 i (by have := hll.out; omega) w0 (Ext.refl _)
   have hkr := hH.out.kids at_ _ hnn.out kid (List.mem_of_getElem? ek.out)
   obtain ⟨kd, rfl⟩ : ∃ kd : Nat, kid = kd := ⟨kid.toNat, by omega⟩
   have hho := hH.out.harms x (List.mem_of_getElem? hxt.out) o (List.mem_of_getElem? eo.out)
   have ho0 := hho.1
   have ho1 := hho.2
   have hil : i < x.opts.length := by have := hll.out; omega
   have q3 := After.cell kk3
   have q0 := After.cell kn0
   go_wp2_with fail
   refine wp_region_tail 7 (by kernel_rfl) (by kernel_rfl) ?_
   simp only [List.take_succ_cons, List.take_zero, List.drop_succ_cons, List.drop_zero]
   repeat (go_big_quiet_step (fail))
   refine wpQuiet_nil ?_
   rintro _ ⟨y, rfl⟩
   have hy' := y.ext
   generalize y.world = V at hy' ⊢
   have hCV := Lib.hid (hC.out.toExt hy')
   have dc : V.cell? ⟨D, m, none⟩ = some (.int .i64 ((dec.set m d0)[m]?.getD 0)) := by
    rw [hCV.out.db.cell m]
    simp [hml]
   generalize (dec.set m d0)[m]?.getD 0 = old at dc
   have dfr' : V.frozen? ⟨D, m, none⟩ = false := hCV.out.db.frozen _
   have hCn : Hid (Chk w0 (V.setCell ⟨D, m, none⟩ (.int .i64 (i : Int))) K D (.slice (some ⟨b2, o2, none⟩) t.length tc) (.slice (some ⟨b1, o1, none⟩) c.length cc) t bound c (dec.set m (i : Int)) (lst - lx)) := by
    have := hCV.out.setDec m (i : Int)
    rw [List.set_set] at this
    exact this
   have hKn : Hid (Keep (fun g => g = K ∨ g = D) W5 (V.setCell ⟨D, m, none⟩ (.int .i64 (i : Int)))) := Lib.hid ((hK.out.trans (Keep.of_ext hy')).setCell (Or.inl (Or.inr rfl)) _)
   have y2 : (V.setCell ⟨D, m, none⟩ (.int .i64 (i : Int))).cell? ⟨B8, 2, none⟩ = some (.slice (some ⟨b4, o4, none⟩) x.opts.length oc) := by
    rw [World.cell?_setCell_other _ _ _ _ (by simp; try omega)]; exact hy'.cell kp2
   have y4 : (V.setCell ⟨D, m, none⟩ (.int .i64 (i : Int))).cell? ⟨b4, o4 + i * 3, none⟩ = some (.int .i64 o.harm) := hCn.out.ext.cell r1
   have hRn : Hid (rightP t bound c (f + 1) dec lst at_ harm = (rightP t bound c f (dec.set m (i : Int)) (lst - lx) kd (harm + o.harm) && kidsR g ((i + 1 : Nat) : Int) (nk.drop (i + 1)) (x.opts.drop (i + 1)))) := by
    show _ = _
    rw [hRi.out, dk.out, do_.out]
    simp only [kidsR]
    rw [← hg.out]
    rfl
   have hI := Lib.hid (hih.out (V.setCell ⟨D, m, none⟩ (.int .i64 (i : Int))) (dec.set m (i : Int)) (lst - lx) kd (harm + o.harm)
    ⟨hCn.out, hH.out.task, hH.out.harms, hH.out.dec.set_ hxt.out (by omega) (by omega), hH.out.kids, hH.out.few, by omega, by have := hH.out.fuel; omega, by omega, by omega, by omega, by omega⟩)
   clear hRi r1 r2 r3 c1 kp0 kp1 kp2 kn0 q3 q0
   obtain ⟨rb, hrb⟩ : ∃ rb, Hid (rightP t bound c f (dec.set m (i : Int)) (lst - lx) kd (harm + o.harm) = rb) := ⟨_, rfl⟩
   rw [hrb.out] at hRn hI
   have hml' : m < dec.length := hml
   go_wp2_with fail
   refine hI.out.mono ?_
   rintro e w7 ⟨rfl, hk7, hc7⟩
   have hk7' := Lib.hid hk7
   have hc7' := Lib.hid hc7
   clear hk7 hc7 hI y2 y4
   cases rb with
   | false =>
    have hRf : Hid (rightP t bound c (f + 1) dec lst at_ harm = false) := by show _ = _; rw [hRn.out]; rfl
    go_wp2
    go_ret
    rw [hRf.out]
    exact ⟨rfl, (hk5.out.trans hKn.out).trans hk7'.out, fun h => by cases h⟩
   | true =>
    have hRt : Hid (rightP t bound c (f + 1) dec lst at_ harm = kidsR g ((i + 1 : Nat) : Int) (nk.drop (i + 1)) (x.opts.drop (i + 1))) := by show _ = _; rw [hRn.out]; rfl
    have hc8 := Lib.hid (hc7'.out rfl)
    have hk8 := Lib.hid (hKn.out.trans hk7'.out)
    go_wp2
    go_roundw
    case rel => exact ⟨i + 1, (i : Int), by omega, by go_num, hc8, hk8, hRt⟩
    case measure => simp [intOf]; omega
  ·have hRt : Hid (rightP t bound c (f + 1) dec lst at_ harm = true) := by
    show _ = _
    rw [hRi.out, List.drop_eq_nil_of_le (by omega)]
    rfl
   have q3 := After.cell kk3
   have q0 := After.cell kn0
   have hxl2 := hll.out
   clear hRi
   go_wp2_with fail
   refine wp_region_tail 6 (by kernel_rfl) (by kernel_rfl) ?_
   simp only [List.take_succ_cons, List.take_zero, List.drop_succ_cons, List.drop_zero]
   repeat (go_big_quiet_step (fail))
   refine wpQuiet_nil ?_
   rintro _ ⟨y, rfl⟩
   have hy' := y.ext
   generalize y.world = V at hy' ⊢
   have hCV := Lib.hid (hC.out.toExt hy')
   have dc : V.cell? ⟨D, m, none⟩ = some (.int .i64 ((dec.set m d0)[m]?.getD 0)) := by
    rw [hCV.out.db.cell m]
    simp [hml]
   generalize (dec.set m d0)[m]?.getD 0 = old at dc
   have dfr' : V.frozen? ⟨D, m, none⟩ = false := hCV.out.db.frozen _
   have hCn : Hid (Chk w0 (V.setCell ⟨D, m, none⟩ (.int .i64 (-1))) K D (.slice (some ⟨b2, o2, none⟩) t.length tc) (.slice (some ⟨b1, o1, none⟩) c.length cc) t bound c dec (lst - lx)) := by
    have := hCV.out.setDec m (-1)
    rw [List.set_set, hdecm.out] at this
    exact this
   have hKn : Hid (Keep (fun g => g = K ∨ g = D) W5 (V.setCell ⟨D, m, none⟩ (.int .i64 (-1)))) := Lib.hid ((hK.out.trans (Keep.of_ext hy')).setCell (Or.inl (Or.inr rfl)) _)
   have y0 := After.cell (show (V.setCell ⟨D, m, none⟩ (.int .i64 (-1))).cell? ⟨B8, 0, none⟩ = some (.int .i64 x.meeting) from by
    rw [World.cell?_setCell_other _ _ _ _ (by simp; try omega)]; exact hy'.cell kp0)
   have y1 := After.cell (show (V.setCell ⟨D, m, none⟩ (.int .i64 (-1))).cell? ⟨B8, 1, none⟩ = some (.slice xa x.people.length xc) from by
    rw [World.cell?_setCell_other _ _ _ _ (by simp; try omega)]; exact hy'.cell kp1)
   have y2 := After.cell (show (V.setCell ⟨D, m, none⟩ (.int .i64 (-1))).cell? ⟨B8, 2, none⟩ = some (.slice oa x.opts.length oc) from by
    rw [World.cell?_setCell_other _ _ _ _ (by simp; try omega)]; exact hy'.cell kp2)
   have y4 := After.cell (show (V.setCell ⟨D, m, none⟩ (.int .i64 (-1))).cell? ⟨K, 4, none⟩ = some (.int .i64 (lst - lx)) from hCn.out.blk.cell 4)
   have hcl : Hid (∀ W, Ext (V.setCell ⟨D, m, none⟩ (.int .i64 (-1))) W → Calls Tryz.prog 22 #[.agg #[.int .i64 x.meeting, .slice xa x.people.length xc, .slice oa x.opts.length oc]] W
     fun e w' => e = .returned (.int .i64 lx) ∧ Ext W w') := fun W hW => by
    have := least_calls _ x W ⟨_, _, rfl, hgp.out.ext (hCn.out.ext.trans hW), hgo.out.ext (hCn.out.ext.trans hW)⟩
    rwa [hlx.out] at this
   have hml' : m < dec.length := hml
   clear kp0 kp1 kp2 kn0 q3 q0
   go_wp2_with fail
   refine wp_region_tail 7 (by kernel_rfl) (by kernel_rfl) ?_
   simp only [List.take_succ_cons, List.take_zero, List.drop_succ_cons, List.drop_zero]
   repeat (go_big_quiet_step ((exact After.call _ (hcl.out _ (After.ext _)))))
   refine wpQuiet_nil ?_
   rintro _ ⟨y', rfl⟩
   have hy2 := y'.ext
   generalize y'.world = V2 at hy2 ⊢
   clear y0 y1 y2 y4
   have hC2 := Lib.hid (hCn.out.toExt hy2)
   have fr4' : V2.frozen? ⟨K, 4, none⟩ = false := hC2.out.blk.frozen 4
   have q4' : V2.cell? ⟨K, 4, none⟩ = some (.int .i64 (lst - lx)) := hC2.out.blk.cell 4
   have hCe : Hid (Chk w0 (V2.setCell ⟨K, 4, none⟩ (.int .i64 lst)) K D (.slice (some ⟨b2, o2, none⟩) t.length tc) (.slice (some ⟨b1, o1, none⟩) c.length cc) t bound c dec lst) := Lib.hid (hC2.out.setLst lst)
   have hKe : Hid (Keep (fun g => g = K ∨ g = D) w (V2.setCell ⟨K, 4, none⟩ (.int .i64 lst))) := Lib.hid (((hk5.out.trans hKn.out).trans (Keep.of_ext hy2)).setCell (Or.inl (Or.inl rfl)) _)
   have hee : lst - lx + lx = lst := by omega
   go_wp2
   go_ret
   rw [hRt.out]
   exact ⟨rfl, hKe.out, fun _ => hCe.out⟩

theorem right_calls (w0 : World) (K D : Nat) (tv cv : Value) (t : List WishD) (bound : Int) (c : List NodeD) : ∀ (f : Nat) (w : World) (dec : List Int) (lst : Int) (at_ : Nat) (harm : Int),
  RightIn w0 w K D tv cv t bound c dec lst f at_ harm →
  Calls Tryz.prog 23 #[.pointer (some ⟨K, 0, none⟩), .int .i64 at_, .int .i64 harm] w (RightOut w0 w K D tv cv t bound c dec lst (rightP t bound c f dec lst at_ harm)) := by
 intro f
 induction f with
 | zero => intro w dec lst at_ harm H; have := H.lt; have := H.fuel; omega
 | succ f ih =>
  intro w dec lst at_ harm H
  obtain ⟨n, hn⟩ : ∃ n, c[at_]? = some n := ⟨c[at_]'H.lt, List.getElem?_eq_getElem H.lt⟩
  by_cases hw : n.wish = -1
  ·exact right_leaf w0 w K D tv cv t bound c dec lst f at_ harm n H hn hw
  cases hi : idxB n.wish t.length with
  | false => exact right_idx w0 w K D tv cv t bound c dec lst f at_ harm n H hn hw hi
  | true =>
  rcases Int.lt_or_le (decAt dec n.wish) 0 with hd | hd
  case inr => exact right_decided w0 w K D tv cv t bound c dec lst f at_ harm n H hn hw hi hd
  by_cases hA : n.clA = 0
  case neg => exact right_clA w0 w K D tv cv t bound c dec lst f at_ harm n H hn hw hi hd hA
  by_cases hB : n.clB = 0
  case neg => exact right_clB w0 w K D tv cv t bound c dec lst f at_ harm n H hn hw hi hd hA hB
  obtain ⟨m, hm, hml⟩ := idxB_nat hi
  obtain ⟨x, hx⟩ : ∃ x, t[n.wish.toNat]? = some x := ⟨t[m], by rw [hm, Int.toNat_natCast]; exact List.getElem?_eq_getElem hml⟩
  by_cases hl : n.kids.length = x.opts.length
  ·exact right_node w0 w K D tv cv t bound c dec lst f at_ harm n ih H hn hw hi hd hA hB x hx hl
  ·exact right_len w0 w K D tv cv t bound c dec lst f at_ harm n H hn hw hi hd hA hB x hx hl
end Go.Proofs.YtepcdhpikpmepaaGreat

/- Walks of the check: Check. -/
namespace Go.Proofs.YtepcdhpikpmepaaGreat
open Go.RowKit

theorem tickKids_in {n i : Int} : ∀ {l ps qs : List Int}, tickKids n i l ps = some qs → ∀ k ∈ l, i < k ∧ k < n
 | [], _, _, _, k, hk => by cases hk
 | k' :: r, ps, qs, h, k, hk => by
  simp only [tickKids] at h
  split at h
  ·cases h
  ·rcases List.mem_cons.1 hk with rfl | hk
   ·omega
   ·exact tickKids_in h k hk
theorem tickAll_in {n : Int} : ∀ {l : List NodeD} {i : Int} {ps qs : List Int}, tickAll n l i ps = some qs → ∀ (j : Nat) (x : NodeD), l[j]? = some x → ∀ k ∈ x.kids, i + j < k ∧ k < n
 | [], _, _, _, _, j, x, hx, _, _ => by simp at hx
 | y :: r, i, ps, qs, h, j, x, hx, k, hk => by
  simp only [tickAll] at h
  split at h
  ·cases h
  ·rename_i ps' he
   cases j with
   | zero =>
    simp at hx; subst hx
    have := tickKids_in he k hk
    omega
   | succ j =>
    have := tickAll_in h j x (by simpa using hx) k hk
    omega
theorem formed_in {c : List NodeD} (h : formedB c = true) : 0 < c.length ∧ c.length ≤ 65536 ∧ ∀ (i : Nat) (n : NodeD), c[i]? = some n → ∀ k ∈ n.kids, (i : Int) < k ∧ k < c.length := by
 unfold formedB at h
 split at h
 ·cases h
 ·refine ⟨by omega, by omega, fun i n hn k hk => ?_⟩
  cases he : tickAll c.length c 0 (zerosL c.length) with
  | none => rw [he] at h; simp [tickOk] at h
  | some ps =>
   have := tickAll_in he i n hn k hk
   omega
def checkT (t : List WishD) (bound : Int) (c : List NodeD) : Int :=
 if validT t ≠ 0 then validT t else if formedB c = false then 3 else if rightP t bound c c.length (List.replicate t.length (-1)) (leastSum t) 0 0 then 0 else 11

def decI (n i : Nat) : List Int := List.replicate i (-1) ++ zerosL (n - i)
theorem decI_len {n i : Nat} (h : i ≤ n) : (decI n i).length = n := by simp [decI, zerosL]; omega
theorem decI_step {n i : Nat} (h : i < n) : (decI n i).set i (-1) = decI n (i + 1) := by
 unfold decI
 obtain ⟨k, hk⟩ : ∃ k, n - i = k + 1 := ⟨n - i - 1, by omega⟩
 have e : n - (i + 1) = k := by omega
 rw [hk, e, List.set_append_right _ _ (by simp)]
 simp [zerosL, List.replicate_succ]
 rw [show List.replicate i (-1 : Int) ++ -1 :: List.replicate k 0 = (List.replicate i (-1) ++ [-1]) ++ List.replicate k 0 by simp, ← List.replicate_succ', List.replicate_succ]
 simp
theorem decI_end (n : Nat) : decI n n = List.replicate n (-1) := by simp [decI, zerosL]

set_option maxHeartbeats 1600000 in
set_option maxRecDepth 100000 in
theorem check_invalid (tv cv : Value) (t : List WishD) (bound : Int) (c : List NodeD) (w : World) (h : Wishes w tv t) (hv : validT t ≠ 0) :
  Calls Tryz.prog 8 #[.agg #[tv], .int .i64 bound, cv] w fun e w' => e = .returned (.int .i64 (checkT t bound c)) ∧ Ext w w' := by
 have hh := Lib.hid h
 have hvv := Lib.hid hv
 obtain ⟨ta, tc, rfl⟩ := h.form
 have hnb : (validT t == 0) = false := by simpa using hv
 obtain ⟨vt, hvt⟩ : ∃ vt, Hid (validT t = vt) := ⟨_, rfl⟩
 have R : Hid (checkT t bound c = vt) := by show _ = _; unfold checkT; rw [if_pos hvv.out, hvt.out]
 rw [hvt.out] at hnb
 clear h hv
 go_enter Tryz.func8, Tryz.ntmps8
 go_wp2_with fail
 refine (valid_calls _ t _ (hh.out.ext (by exact (by with_reducible repeat' (first | exact Ext.refl _ | assumption | refine Ext.drewN ?_ _ | refine Ext.drew ?_ | refine Ext.alloc ?_ _ | refine Ext.trans ?_ (by with_reducible assumption)))))).mono ?_
 rintro e w1 ⟨rfl, hx1⟩
 have hx2 : Hid (Ext w w1) := Lib.hid (Ext.trans (by exact (by with_reducible repeat' (first | exact Ext.refl _ | assumption | refine Ext.drewN ?_ _ | refine Ext.drew ?_ | refine Ext.alloc ?_ _ | refine Ext.trans ?_ (by with_reducible assumption)))) hx1)
 rw [hvt.out]
 go_wp2
 go_ret
 rw [R.out]
 exact ⟨rfl, hx2.out⟩

set_option maxHeartbeats 1600000 in
set_option maxRecDepth 100000 in
theorem check_unformed (tv cv : Value) (t : List WishD) (bound : Int) (c : List NodeD) (w : World) (h : Wishes w tv t) (hc : Nodes w cv c) (hk : ∀ n ∈ c, n.kids.length ≤ 17592186044416) (hv : validT t = 0) (hf : formedB c = false) :
  Calls Tryz.prog 8 #[.agg #[tv], .int .i64 bound, cv] w fun e w' => e = .returned (.int .i64 (checkT t bound c)) ∧ Ext w w' := by
 have hh := Lib.hid h
 have hcc := Lib.hid hc
 have hkk := Lib.hid hk
 have hvv := Lib.hid hv
 have hff := Lib.hid hf
 obtain ⟨ta, tc, rfl⟩ := h.form
 obtain ⟨ca, cc, rfl⟩ := hc.form
 have R : Hid (checkT t bound c = 3) := by show _ = _; unfold checkT; rw [if_neg (by simp [hv]), if_pos hf]
 clear h hv hc hk hf
 go_enter Tryz.func8, Tryz.ntmps8
 go_wp2_with fail
 refine (valid_calls _ t _ (hh.out.ext (by exact (by with_reducible repeat' (first | exact Ext.refl _ | assumption | refine Ext.drewN ?_ _ | refine Ext.drew ?_ | refine Ext.alloc ?_ _ | refine Ext.trans ?_ (by with_reducible assumption)))))).mono ?_
 rintro e w1 ⟨rfl, hx1⟩
 have hx2 : Hid (Ext w w1) := Lib.hid (Ext.trans (by exact (by with_reducible repeat' (first | exact Ext.refl _ | assumption | refine Ext.drewN ?_ _ | refine Ext.drew ?_ | refine Ext.alloc ?_ _ | refine Ext.trans ?_ (by with_reducible assumption)))) hx1)
 rw [hvv.out]
 clear hx1
 go_wp2_with fail
 refine (formed_calls _ c w1 (hcc.out.ext hx2.out) hkk.out).mono ?_
 rintro e w2 ⟨rfl, hx3⟩
 have hx4 := Lib.hid hx3
 rw [hff.out]
 clear hx3
 go_wp2
 go_ret
 rw [R.out]
 exact ⟨rfl, hx2.out.trans hx4.out⟩

set_option maxHeartbeats 3200000 in
set_option maxRecDepth 100000 in
theorem check_formed (tv cv : Value) (t : List WishD) (bound : Int) (c : List NodeD) (w : World) (h : Wishes w tv t) (hc : Nodes w cv c) (hk : ∀ n ∈ c, n.kids.length ≤ 17592186044416) (hv : validT t = 0) (hf : formedB c = true) :
  Calls Tryz.prog 8 #[.agg #[tv], .int .i64 bound, cv] w fun e w' => e = .returned (.int .i64 (checkT t bound c)) ∧ Ext w w' := by
 have hh := Lib.hid h
 have hcc := Lib.hid hc
 have hkk := Lib.hid hk
 have hvv := Lib.hid hv
 have hff := Lib.hid hf
 obtain ⟨ta, tc, rfl, _, _, hat⟩ := h.open
 obtain ⟨ca, cc, rfl⟩ := hc.form
 have hL : t.length ≤ 512 := by
  have := (validT_ok hv).1
  simp [tooLargeB] at this
  exact this.1
 have hmk := run_make_ints t.length (by omega)
 obtain ⟨rb, hrb⟩ : ∃ rb, Hid (rightP t bound c c.length (List.replicate t.length (-1)) (leastSum t) 0 0 = rb) := ⟨_, rfl⟩
 have R : Hid (checkT t bound c = if rb = true then 0 else 11) := by show _ = _; unfold checkT; rw [if_neg (by simp [hv]), if_neg (by simp [hf]), hrb.out]
 have hat' := Lib.hid hat
 clear h hv hc hk hf hat
 go_enter Tryz.func8, Tryz.ntmps8
 go_wp2_with fail
 refine (valid_calls _ t _ (hh.out.ext (by exact (by with_reducible repeat' (first | exact Ext.refl _ | assumption | refine Ext.drewN ?_ _ | refine Ext.drew ?_ | refine Ext.alloc ?_ _ | refine Ext.trans ?_ (by with_reducible assumption)))))).mono ?_
 rintro e w1 ⟨rfl, hx1⟩
 have c0 : w1.cell? ⟨w.heap.size, 0, none⟩ = some (.slice ta t.length tc) := hx1.cell (by simp)
 have hx2 : Hid (Ext w w1) := Lib.hid (Ext.trans (by exact (by with_reducible repeat' (first | exact Ext.refl _ | assumption | refine Ext.drewN ?_ _ | refine Ext.drew ?_ | refine Ext.alloc ?_ _ | refine Ext.trans ?_ (by with_reducible assumption)))) hx1)
 rw [hvv.out]
 clear hx1
 go_wp2_with fail
 refine (formed_calls _ c w1 (hcc.out.ext hx2.out) hkk.out).mono ?_
 rintro e w2 ⟨rfl, hx3⟩
 have hx4 := Lib.hid (hx2.out.trans hx3)
 have c0' := hx3.cell c0
 rw [hff.out]
 clear hx3 c0 hx2
 have hw0 : w.heap.size < w2.heap.size := World.block_lt_of_cell? _ _ c0'
 go_wp2_with fail
 go_region
 go_step; go_step
 have hC0 : Hid (Chk w2 (((w2.alloc (Obj.cells (zerosV t.length) 3)).alloc (Obj.cells #[Value.slice ta t.length tc, Value.int IntKind.i64 bound, Value.slice ca c.length cc, Value.slice (some { block := w2.heap.size, off := 0 }) t.length t.length, Value.int IntKind.i64 0] 81)).drew)
   (w2.heap.size + 1) w2.heap.size (.slice ta t.length tc) (.slice ca c.length cc) t bound c (decI t.length 0) 0) := by
  refine ⟨(((Ext.refl w2).alloc _).alloc _).drew, hh.out.ext hx4.out, hcc.out.ext hx4.out, by omega, by omega, ?_, ?_⟩
  ·rw [decI_len (Nat.zero_le _)]
   exact (blk_new' (by simp only [World.size_alloc]) rfl).drew
  ·exact ((blk_new' rfl (by simp [decI, zerosV])).alloc _).drew
 refine wp_abs (S := fun W => Hid (Chk w2 W (w2.heap.size + 1) w2.heap.size (.slice ta t.length tc) (.slice ca c.length cc) t bound c (decI t.length 0) 0)) hC0 ?_
 clear hC0
 intro W2 hC2
 generalize w2.heap.size + 1 = K at hC2 ⊢
 obtain ⟨D, hD⟩ : ∃ D, Hid (w2.heap.size = D) := ⟨_, rfl⟩
 rw [hD.out] at hC2 ⊢
 have c0 := hC2.out.ext.cell c0'
 have hharm := Lib.hid (harms_of hvv.out)
 go_wp2_with fail
 go_loopw [9, 10, 31] (fun _ _ vi wr => ∃ i : Nat, i ≤ t.length ∧ vi = .int .i64 i ∧ Hid (Chk w2 wr K D (.slice ta t.length tc) (.slice ca c.length cc) t bound c (decI t.length i) (leastSum t - leastSum (t.drop i)))) (fun _ _ vi _ => t.length - (intOf vi).toNat)
 case atStart => exact ⟨0, by omega, rfl, by simpa using hC2⟩
 case round =>
  obtain ⟨i, hi, rfl, hC⟩ := hrel
  by_cases h1 : i < t.length
  ·obtain ⟨b1, o1, x, xa, xc, oa, oc, rfl, hb1, dx, ex, g0, g1, g2, gp, go⟩ := hat'.out i h1 w2 hx4.out
   have g0 := hC.out.ext.cell g0
   have g1 := hC.out.ext.cell g1
   have g2 := hC.out.ext.cell g2
   have hb1 : b1 < wr.heap.size := Nat.lt_of_lt_of_le hb1 hC.out.ext.size
   have hls : Hid (leastSum (t.drop i) = leastSum (t.drop (i + 1)) + leastB x) := by show _ = _; rw [dx.out]; rfl
   have hb0 := leastSum_bd t (fun x hx o ho => (hharm.out x hx o ho).1)
   have hb2 := leastSum_bd (t.drop i) (fun x hx o ho => (hharm.out x (List.mem_of_mem_drop hx) o ho).1)
   have hb3 := leastSum_bd [x] (fun y hy o ho => by simp at hy; subst hy; exact (hharm.out y (List.mem_of_getElem? ex.out) o ho).1)
   have hlx0 : 0 ≤ leastB x := by have := hb3.1; simpa [leastSum] using this
   have hlx1 : leastB x ≤ 1000000 := by have := hb3.2; simpa [leastSum] using this
   obtain ⟨li, hli⟩ : ∃ li, Hid (leastSum t - leastSum (t.drop i) = li) := ⟨_, rfl⟩
   have hli0 : -1000000000 ≤ li := by rw [← hli.out]; have := hb0.1; have := hb2.2; simp at this; omega
   have hli1 : li ≤ 1000000000 := by rw [← hli.out]; have := hb0.2; have := hb2.1; omega
   rw [hli.out] at hC
   have hgp := Lib.hid gp
   have hgo := Lib.hid go
   have kk3 : wr.cell? ⟨K, 3, none⟩ = some (.slice (some ⟨D, 0, none⟩) t.length t.length) := by
    have := hC.out.blk.cell 3
    rw [this, decI_len (by omega)]; rfl
   have kd : wr.cell? ⟨D, i, none⟩ = some (.int .i64 ((decI t.length i)[i]?.getD 0)) := by
    rw [hC.out.db.cell i]
    simp [decI_len (Nat.le_of_lt h1), h1]
   generalize (decI t.length i)[i]?.getD 0 = old at kd
   have kf : wr.frozen? ⟨D, i, none⟩ = false := hC.out.db.frozen _
   have hKw : K < wr.heap.size := hC.out.blk.lt
   have hDw : D < wr.heap.size := hC.out.db.lt
   have hKD := hC.out.ne
   have hCn := Lib.hid (hC.out.setDec i (-1))
   rw [decI_step h1] at hCn
   clear hb0 hb2 hb3 gp go
   go_wp2_with fail
   refine wp_abs (S := fun V => Hid (Chk w2 V K D (.slice (some ⟨b1, o1, none⟩) t.length tc) (.slice ca c.length cc) t bound c (decI t.length (i + 1)) li) ∧ V.cell? ⟨wr.heap.size, 0, none⟩ = some (.int .i64 x.meeting) ∧
    V.cell? ⟨wr.heap.size, 1, none⟩ = some (.slice xa x.people.length xc) ∧ V.cell? ⟨wr.heap.size, 2, none⟩ = some (.slice oa x.opts.length oc)) ?_ ?_
   ·have hcell := fun k => (Blk.new (wr.setCell ⟨D, i, none⟩ (.int .i64 (-1))) 67 #[Value.int IntKind.i64 x.meeting, Value.slice xa x.people.length xc, Value.slice oa x.opts.length oc]).cell k
    rw [World.size_setCell] at hcell
    exact ⟨Lib.hid (hCn.out.toExt ((Ext.refl _).alloc _)), hcell 0, hcell 1, hcell 2⟩
   rintro V ⟨hCV, p0, p1, p2⟩
   have a0 := After.cell p0
   have a1 := After.cell p1
   have a2 := After.cell p2
   have a4 := After.cell (show V.cell? ⟨K, 4, none⟩ = some (.int .i64 li) from hCV.out.blk.cell 4)
   have hcl : Hid (∀ W, Ext V W → Calls Tryz.prog 22 #[.agg #[.int .i64 x.meeting, .slice xa x.people.length xc, .slice oa x.opts.length oc]] W
     fun e w' => e = .returned (.int .i64 (leastB x)) ∧ Ext W w') := fun W hW => least_calls _ x W ⟨_, _, rfl, hgp.out.ext (hCV.out.ext.trans hW), hgo.out.ext (hCV.out.ext.trans hW)⟩
   obtain ⟨lx, hlx⟩ : ∃ lx, Hid (leastB x = lx) := ⟨_, rfl⟩
   rw [hlx.out] at hcl hlx0 hlx1 hls
   clear kk3 kd kf p0 p1 p2 g0 g1 g2
   go_wp2_with fail
   refine wp_region_tail 7 (by kernel_rfl) (by kernel_rfl) ?_
   simp only [List.take_succ_cons, List.take_zero, List.drop_succ_cons, List.drop_zero]
   repeat (go_big_quiet_step ((exact After.call _ (hcl.out _ (After.ext _)))))
   refine wpQuiet_nil ?_
   rintro _ ⟨y, rfl⟩
   have hy := y.ext
   generalize y.world = V2 at hy ⊢
   clear a0 a1 a2 a4
   have hC2' := Lib.hid (hCV.out.toExt hy)
   have fr4 : V2.frozen? ⟨K, 4, none⟩ = false := hC2'.out.blk.frozen 4
   have q4 : V2.cell? ⟨K, 4, none⟩ = some (.int .i64 li) := hC2'.out.blk.cell 4
   have hCe : Hid (Chk w2 (V2.setCell ⟨K, 4, none⟩ (.int .i64 (li + lx))) K D (.slice (some ⟨b1, o1, none⟩) t.length tc) (.slice ca c.length cc) t bound c (decI t.length (i + 1)) (leastSum t - leastSum (t.drop (i + 1)))) := by
    have e : leastSum t - leastSum (t.drop (i + 1)) = li + lx := by rw [← hli.out, hls.out]; omega
    rw [e]
    exact hC2'.out.setLst (li + lx)
   go_wp2
   go_roundw
   case rel => exact ⟨i + 1, by omega, by go_num, hCe⟩
   case measure => simp [intOf]; omega
  ·have hie : i = t.length := by omega
   obtain ⟨f1, f2, f3⟩ := formed_in hff.out
   have hb0 := leastSum_bd t (fun x hx o ho => (hharm.out x hx o ho).1)
   have hC' : Hid (Chk w2 wr K D (.slice ta t.length tc) (.slice ca c.length cc) t bound c (List.replicate t.length (-1)) (leastSum t)) := by
    have := hC.out
    rw [hie, decI_end, List.drop_length] at this
    simp only [leastSum, Int.sub_zero] at this
    exact this
   have hr := Lib.hid (right_calls w2 K D _ _ t bound c c.length wr (List.replicate t.length (-1)) (leastSum t) 0 0
    ⟨hC'.out, taskIn_of hvv.out, hharm.out, ⟨by simp, fun i x d hx hd => by
     rw [List.getElem?_replicate] at hd
     split at hd
     ·cases hd; omega
     ·cases hd⟩, f3, f2, f1, by omega, Int.le_refl _, by simp, by have := hb0.1; omega, by have := hb0.2; omega⟩)
   rw [hrb.out] at hr
   clear hC hb0
   go_wp2_with fail
   refine hr.out.mono ?_
   rintro e w7 ⟨rfl, hk7, _⟩
   have hbK := hC'.out.bK
   have hbD := hC'.out.bD
   have hxe : Hid (Ext w w7) := Lib.hid ((hx4.out.trans hC'.out.ext).keep hk7 (by
    have := hx4.out.size
    rintro i hi (rfl | rfl) <;> omega))
   cases rb with
   | false =>
    go_wp2
    go_ret
    rw [R.out]
    exact ⟨rfl, hxe.out⟩
   | true =>
    go_wp2
    go_ret
    rw [R.out]
    exact ⟨rfl, hxe.out⟩

theorem check_callsK (tv cv : Value) (t : List WishD) (bound : Int) (c : List NodeD) (w : World) (h : Wishes w tv t) (hc : Nodes w cv c) (hk : ∀ n ∈ c, n.kids.length ≤ 17592186044416) :
  Calls Tryz.prog 8 #[.agg #[tv], .int .i64 bound, cv] w fun e w' => e = .returned (.int .i64 (checkT t bound c)) ∧ Ext w w' := by
 by_cases hv : validT t = 0
 ·cases hf : formedB c with
  | false => exact check_unformed tv cv t bound c w h hc hk hv hf
  | true => exact check_formed tv cv t bound c w h hc hk hv hf
 ·exact check_invalid tv cv t bound c w h hv
theorem check_calls (tv cv : Value) (t : List WishD) (bound : Int) (c : List NodeD) (w : World) (h : Wishes w tv t) (hc : Nodes w cv c) (hk : ∀ n ∈ c, n.kids.length ≤ 65536) :
  Calls Tryz.prog 8 #[.agg #[tv], .int .i64 bound, cv] w fun e w' => e = .returned (.int .i64 (checkT t bound c)) ∧ Ext w w' := check_callsK tv cv t bound c w h hc fun n hn => Nat.le_trans (hk n hn) (by decide)
end Go.Proofs.YtepcdhpikpmepaaGreat
