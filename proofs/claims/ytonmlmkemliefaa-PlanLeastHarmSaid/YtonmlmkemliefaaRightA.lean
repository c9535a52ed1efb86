/- Walks of the check: right, its short cases. -/
import Derived.Test.YtonmlmkemliefaaClosedB
namespace Go.Proofs.Ytonmlmkemliefaa
open Go.RowKit

def kidsR (g : Int → Int → OptD → Bool) : Int → List Int → List OptD → Bool
  | i, k :: ks, o :: os => g i k o && kidsR g (i + 1) ks os
  | _, _, _ => true
def rightP (t : List WishD) (bound : Int) (c : List NodeD) : Nat → List Int → Int → Nat → Int → Bool
  | 0, _, _, _, _ => false
  | f + 1, dec, lst, at_, harm =>
    match c[at_]? with
    | none => false
    | some n =>
      if n.wish = -1 then (n.kids.length == 0) && closedB t bound dec lst n.clA n.clB harm
      else if idxB n.wish t.length = false then false
      else match t[n.wish.toNat]? with
        | none => false
        | some x =>
          if 0 ≤ decAt dec n.wish ∨ n.clA ≠ 0 ∨ n.clB ≠ 0 ∨ n.kids.length ≠ x.opts.length then false
          else kidsR (fun i kid o => rightP t bound c f (dec.set n.wish.toNat i) (lst - leastB x) kid.toNat (harm + o.harm)) 0 n.kids x.opts

structure RightIn (w0 w : World) (K D : Nat) (tv cv : Value) (t : List WishD) (bound : Int) (c : List NodeD) (dec : List Int) (lst : Int) (f at_ : Nat) (harm : Int) : Prop where
  chk : Chk w0 w K D tv cv t bound c dec lst
  task : TaskIn t
  harms : ∀ x ∈ t, ∀ o ∈ x.opts, 0 ≤ o.harm ∧ o.harm ≤ 1000000
  dec : DecOk t dec
  kids : ∀ (i : Nat) (n : NodeD), c[i]? = some n → ∀ k ∈ n.kids, (i : Int) < k ∧ k < c.length
  few : c.length ≤ 65536
  lt : at_ < c.length
  fuel : c.length ≤ at_ + f
  h0 : 0 ≤ harm
  h1 : harm ≤ 1000000 * at_
  l0 : -1000000 * (at_ : Int) ≤ lst
  l1 : lst ≤ 1000000000
/-- what right leaves -/
def RightOut (w0 w : World) (K D : Nat) (tv cv : Value) (t : List WishD) (bound : Int) (c : List NodeD) (dec : List Int) (lst : Int) (r : Bool) (e : Ending) (w' : World) : Prop :=
  e = .returned (.bool r) ∧ Keep (fun g => g = K ∨ g = D) w w' ∧ (r = true → Chk w0 w' K D tv cv t bound c dec lst)


set_option maxHeartbeats 1600000 in
set_option maxRecDepth 100000 in
theorem right_leaf (w0 w : World) (K D : Nat) (tv cv : Value) (t : List WishD) (bound : Int) (c : List NodeD) (dec : List Int) (lst : Int) (f at_ : Nat) (harm : Int) (n : NodeD)
    (H : RightIn w0 w K D tv cv t bound c dec lst (f + 1) at_ harm) (hn : c[at_]? = some n) (hw : n.wish = -1) :
    Calls Try.prog 43 #[.pointer (some ⟨K, 0, none⟩), .int .i64 at_, .int .i64 harm] w (RightOut w0 w K D tv cv t bound c dec lst (rightP t bound c (f + 1) dec lst at_ harm)) := by
  have hH := Lib.hid H
  have hnn := Lib.hid hn
  obtain ⟨ta, tc, rfl, _, _, hat⟩ := H.chk.wishes.open
  obtain ⟨ca, cc, rfl, hcn, hcc, hca⟩ := H.chk.nodes.open
  obtain ⟨b1, o1, n', ka, kc, rfl, hb1, _, en, g0, g1, g2, g3, gk⟩ := hca at_ H.lt w H.chk.ext
  obtain rfl : n = n' := Option.some.inj (hn.symm.trans en.out)
  have k0 : w.cell? ⟨K, 0, none⟩ = some (.slice ta t.length tc) := H.chk.blk.cell 0
  have k2 : w.cell? ⟨K, 2, none⟩ = some (.slice (some ⟨b1, o1, none⟩) c.length cc) := H.chk.blk.cell 2
  have k3 : w.cell? ⟨K, 3, none⟩ = some (.slice (some ⟨D, 0, none⟩) dec.length dec.length) := H.chk.blk.cell 3
  have k4 : w.cell? ⟨K, 4, none⟩ = some (.int .i64 lst) := H.chk.blk.cell 4
  have hKw : K < w.heap.size := H.chk.blk.lt
  have hDw : D < w.heap.size := H.chk.db.lt
  have hlt := H.lt
  have hfew := H.few
  have hh0 := H.h0
  have hh1 := H.h1
  have hl0 := H.l0
  have hl1 := H.l1
  have hatw := Lib.hid hat
  have hgk := Lib.hid gk
  clear H hn hat hca en gk
  obtain ⟨nw, nk, nA, nB⟩ := n
  simp only at *
  subst hw
  by_cases hk : nk.length = 0
  · have R : Hid (rightP t bound c (f + 1) dec lst at_ harm = closedB t bound dec lst nA nB harm) := by show _ = _; simp [rightP, hnn.out, hk]
    have hk' : ((nk.length : Int) == 0) = true := by simpa using hk
    go_enter Try.func43, Try.ntmps43
    go_wp2_with fail
    refine (closed_calls w0 _ K D _ _ t bound c dec lst (-1) nA nB harm _ (hH.out.chk.toExt ((Ext.refl w).alloc _)) hH.out.dec hH.out.task (by omega) (by omega)).mono ?_
    rintro e w1 ⟨rfl, hx⟩
    generalize closedB t bound dec lst nA nB harm = cb at *
    go_wp2
    go_ret
    rw [R.out]
    exact ⟨rfl, Keep.of_ext (((Ext.refl w).alloc _).trans hx), fun _ => hH.out.chk.toExt (((Ext.refl w).alloc _).trans hx)⟩
  · have R : Hid (rightP t bound c (f + 1) dec lst at_ harm = false) := by show _ = _; simp [rightP, hnn.out, hk]
    have hk' : ((nk.length : Int) == 0) = false := by simpa using hk
    go_enter Try.func43, Try.ntmps43
    go_wp2
    go_ret
    rw [R.out]
    exact ⟨rfl, (Keep.refl _ _).alloc _, fun h => by cases h⟩


set_option maxHeartbeats 1600000 in
set_option maxRecDepth 100000 in
theorem right_idx (w0 w : World) (K D : Nat) (tv cv : Value) (t : List WishD) (bound : Int) (c : List NodeD) (dec : List Int) (lst : Int) (f at_ : Nat) (harm : Int) (n : NodeD)
    (H : RightIn w0 w K D tv cv t bound c dec lst (f + 1) at_ harm) (hn : c[at_]? = some n) (hw : n.wish ≠ -1) (hi : idxB n.wish t.length = false) :
    Calls Try.prog 43 #[.pointer (some ⟨K, 0, none⟩), .int .i64 at_, .int .i64 harm] w (RightOut w0 w K D tv cv t bound c dec lst (rightP t bound c (f + 1) dec lst at_ harm)) := by
  have hH := Lib.hid H
  have hnn := Lib.hid hn
  obtain ⟨ta, tc, rfl, _, _, hat⟩ := H.chk.wishes.open
  obtain ⟨ca, cc, rfl, hcn, hcc, hca⟩ := H.chk.nodes.open
  obtain ⟨b1, o1, n', ka, kc, rfl, hb1, _, en, g0, g1, g2, g3, gk⟩ := hca at_ H.lt w H.chk.ext
  obtain rfl : n = n' := Option.some.inj (hn.symm.trans en.out)
  have k0 : w.cell? ⟨K, 0, none⟩ = some (.slice ta t.length tc) := H.chk.blk.cell 0
  have k2 : w.cell? ⟨K, 2, none⟩ = some (.slice (some ⟨b1, o1, none⟩) c.length cc) := H.chk.blk.cell 2
  have k3 : w.cell? ⟨K, 3, none⟩ = some (.slice (some ⟨D, 0, none⟩) dec.length dec.length) := H.chk.blk.cell 3
  have k4 : w.cell? ⟨K, 4, none⟩ = some (.int .i64 lst) := H.chk.blk.cell 4
  have hKw : K < w.heap.size := H.chk.blk.lt
  have hDw : D < w.heap.size := H.chk.db.lt
  have hlt := H.lt
  have hfew := H.few
  have hh0 := H.h0
  have hh1 := H.h1
  have hl0 := H.l0
  have hl1 := H.l1
  have hatw := Lib.hid hat
  have hgk := Lib.hid gk
  clear H hn hat hca en gk
  obtain ⟨nw, nk, nA, nB⟩ := n
  simp only at *
  have hw' : (nw == -1) = false := by simpa using hw
  have R : Hid (rightP t bound c (f + 1) dec lst at_ harm = false) := by show _ = _; simp [rightP, hnn.out, hw, hi]
  have hI1 : Hid (∀ W, Calls Try.prog 53 #[.int .i64 nw, .int .i64 t.length] W fun e w' => e = .returned (.bool false) ∧ Ext W w') := fun W => by have := index_calls nw t.length W; rwa [hi] at this
  clear hw hi
  go_enter Try.func43, Try.ntmps43
  go_wp2_with fail
  refine wp_abs (S := fun W => Ext w W ∧ W.cell? ⟨w.heap.size, 0, none⟩ = some (.int .i64 nw) ∧ W.cell? ⟨w.heap.size, 1, none⟩ = some (.slice ka nk.length kc) ∧ W.cell? ⟨w.heap.size, 2, none⟩ = some (.int .i64 nA) ∧ W.cell? ⟨w.heap.size, 3, none⟩ = some (.int .i64 nB)) ⟨by exact (by repeat' (first | (with_reducible exact Ext.refl _) | (with_reducible assumption) | (with_reducible refine Ext.drewN ?_ _) | (with_reducible refine Ext.drew ?_) | (with_reducible refine Ext.alloc ?_ _) | (with_reducible refine Ext.trans ?_ (by with_reducible assumption)))), by simp, by simp, by simp, by simp⟩ ?_
  rintro W ⟨hx, n0, n1, n2, n3⟩
  have m0 := After.cell n0
  have m2 := After.cell n2
  have m3 := After.cell n3
  have d0 := After.cell (hx.cell k0)
  have d3 := After.cell (hx.cell k3)
  go_wp2_with fail
  refine wp_region_after (by kernel_rfl) (by kernel_rfl) ?_
  repeat (go_big_quiet_step (exact After.call _ (by first | (with_reducible exact hI1.out _) | exact hcl.out _ (After.ext _))))
  refine wpQuiet_nil ?_
  rintro _ ⟨z, rfl⟩
  go_wp2
  go_ret
  rw [R.out]
  exact ⟨rfl, Keep.of_ext (hx.trans z.ext), fun h => by cases h⟩

set_option maxHeartbeats 1600000 in
set_option maxRecDepth 100000 in
theorem right_decided (w0 w : World) (K D : Nat) (tv cv : Value) (t : List WishD) (bound : Int) (c : List NodeD) (dec : List Int) (lst : Int) (f at_ : Nat) (harm : Int) (n : NodeD)
    (H : RightIn w0 w K D tv cv t bound c dec lst (f + 1) at_ harm) (hn : c[at_]? = some n) (hw : n.wish ≠ -1) (hi : idxB n.wish t.length = true) (hd : 0 ≤ decAt dec n.wish) :
    Calls Try.prog 43 #[.pointer (some ⟨K, 0, none⟩), .int .i64 at_, .int .i64 harm] w (RightOut w0 w K D tv cv t bound c dec lst (rightP t bound c (f + 1) dec lst at_ harm)) := by
  have hH := Lib.hid H
  have hnn := Lib.hid hn
  obtain ⟨ta, tc, rfl, _, _, hat⟩ := H.chk.wishes.open
  obtain ⟨ca, cc, rfl, hcn, hcc, hca⟩ := H.chk.nodes.open
  obtain ⟨b1, o1, n', ka, kc, rfl, hb1, _, en, g0, g1, g2, g3, gk⟩ := hca at_ H.lt w H.chk.ext
  obtain rfl : n = n' := Option.some.inj (hn.symm.trans en.out)
  have k0 : w.cell? ⟨K, 0, none⟩ = some (.slice ta t.length tc) := H.chk.blk.cell 0
  have k2 : w.cell? ⟨K, 2, none⟩ = some (.slice (some ⟨b1, o1, none⟩) c.length cc) := H.chk.blk.cell 2
  have k3 : w.cell? ⟨K, 3, none⟩ = some (.slice (some ⟨D, 0, none⟩) dec.length dec.length) := H.chk.blk.cell 3
  have k4 : w.cell? ⟨K, 4, none⟩ = some (.int .i64 lst) := H.chk.blk.cell 4
  have hKw : K < w.heap.size := H.chk.blk.lt
  have hDw : D < w.heap.size := H.chk.db.lt
  have hlt := H.lt
  have hfew := H.few
  have hh0 := H.h0
  have hh1 := H.h1
  have hl0 := H.l0
  have hl1 := H.l1
  have hatw := Lib.hid hat
  have hgk := Lib.hid gk
  clear H hn hat hca en gk
  obtain ⟨nw, nk, nA, nB⟩ := n
  simp only at *
  have hI1 : Hid (∀ W, Calls Try.prog 53 #[.int .i64 nw, .int .i64 t.length] W fun e w' => e = .returned (.bool true) ∧ Ext W w') := fun W => by have := index_calls nw t.length W; rwa [hi] at this
  obtain ⟨m, rfl, hm⟩ := idxB_nat hi
  have hw' : ((m : Int) == -1) = false := by rw [beq_eq_false_iff_ne]; omega
  have hdl := hH.out.dec.1
  obtain ⟨dm, hdm⟩ : ∃ d, dec[m]? = some d := ⟨dec[m], List.getElem?_eq_getElem (by omega)⟩
  have hdv : decAt dec m = dm := by simp [decAt, hdm]
  have l0 : w.cell? ⟨D, m, none⟩ = some (.int .i64 dm) := by
    rw [hH.out.chk.db.cell m]; simp [hdm]
  have hml : m < dec.length := by omega
  have e0 := After.cell l0
  rw [hdv] at hd
  have R : Hid (rightP t bound c (f + 1) dec lst at_ harm = false) := by
    show _ = _
    obtain ⟨x, hx⟩ : ∃ x, t[m]? = some x := ⟨t[m], List.getElem?_eq_getElem hm⟩
    simp [rightP, hnn.out, hw, hi, hx, hdv, hd]
  clear hw hi hdm hdv e0
  go_enter Try.func43, Try.ntmps43
  go_wp2_with fail
  refine wp_abs (S := fun W => Ext w W ∧ W.cell? ⟨w.heap.size, 0, none⟩ = some (.int .i64 (m:Int)) ∧ W.cell? ⟨w.heap.size, 1, none⟩ = some (.slice ka nk.length kc) ∧ W.cell? ⟨w.heap.size, 2, none⟩ = some (.int .i64 nA) ∧ W.cell? ⟨w.heap.size, 3, none⟩ = some (.int .i64 nB)) ⟨by exact (by repeat' (first | (with_reducible exact Ext.refl _) | (with_reducible assumption) | (with_reducible refine Ext.drewN ?_ _) | (with_reducible refine Ext.drew ?_) | (with_reducible refine Ext.alloc ?_ _) | (with_reducible refine Ext.trans ?_ (by with_reducible assumption)))), by simp, by simp, by simp, by simp⟩ ?_
  rintro W ⟨hx, n0, n1, n2, n3⟩
  have m0 := After.cell n0
  have m2 := After.cell n2
  have m3 := After.cell n3
  have d0 := After.cell (hx.cell k0)
  have d3 := After.cell (hx.cell k3)
  go_wp2_with fail
  have e0 := After.cell (hx.cell l0)
  refine wp_region_after (by kernel_rfl) (by kernel_rfl) ?_
  repeat (go_big_quiet_step (exact After.call _ (by first | (with_reducible exact hI1.out _) | exact hcl.out _ (After.ext _))))
  refine wpQuiet_nil ?_
  rintro _ ⟨z, rfl⟩
  go_wp2
  go_ret
  rw [R.out]
  exact ⟨rfl, Keep.of_ext (hx.trans z.ext), fun h => by cases h⟩
set_option maxHeartbeats 1600000 in
set_option maxRecDepth 100000 in
theorem right_clA (w0 w : World) (K D : Nat) (tv cv : Value) (t : List WishD) (bound : Int) (c : List NodeD) (dec : List Int) (lst : Int) (f at_ : Nat) (harm : Int) (n : NodeD)
    (H : RightIn w0 w K D tv cv t bound c dec lst (f + 1) at_ harm) (hn : c[at_]? = some n) (hw : n.wish ≠ -1) (hi : idxB n.wish t.length = true) (hd : decAt dec n.wish < 0) (hA : n.clA ≠ 0) :
    Calls Try.prog 43 #[.pointer (some ⟨K, 0, none⟩), .int .i64 at_, .int .i64 harm] w (RightOut w0 w K D tv cv t bound c dec lst (rightP t bound c (f + 1) dec lst at_ harm)) := by
  have hH := Lib.hid H
  have hnn := Lib.hid hn
  obtain ⟨ta, tc, rfl, _, _, hat⟩ := H.chk.wishes.open
  obtain ⟨ca, cc, rfl, hcn, hcc, hca⟩ := H.chk.nodes.open
  obtain ⟨b1, o1, n', ka, kc, rfl, hb1, _, en, g0, g1, g2, g3, gk⟩ := hca at_ H.lt w H.chk.ext
  obtain rfl : n = n' := Option.some.inj (hn.symm.trans en.out)
  have k0 : w.cell? ⟨K, 0, none⟩ = some (.slice ta t.length tc) := H.chk.blk.cell 0
  have k2 : w.cell? ⟨K, 2, none⟩ = some (.slice (some ⟨b1, o1, none⟩) c.length cc) := H.chk.blk.cell 2
  have k3 : w.cell? ⟨K, 3, none⟩ = some (.slice (some ⟨D, 0, none⟩) dec.length dec.length) := H.chk.blk.cell 3
  have k4 : w.cell? ⟨K, 4, none⟩ = some (.int .i64 lst) := H.chk.blk.cell 4
  have hKw : K < w.heap.size := H.chk.blk.lt
  have hDw : D < w.heap.size := H.chk.db.lt
  have hlt := H.lt
  have hfew := H.few
  have hh0 := H.h0
  have hh1 := H.h1
  have hl0 := H.l0
  have hl1 := H.l1
  have hatw := Lib.hid hat
  have hgk := Lib.hid gk
  clear H hn hat hca en gk
  obtain ⟨nw, nk, nA, nB⟩ := n
  simp only at *
  have hI1 : Hid (∀ W, Calls Try.prog 53 #[.int .i64 nw, .int .i64 t.length] W fun e w' => e = .returned (.bool true) ∧ Ext W w') := fun W => by have := index_calls nw t.length W; rwa [hi] at this
  obtain ⟨m, rfl, hm⟩ := idxB_nat hi
  have hw' : ((m : Int) == -1) = false := by rw [beq_eq_false_iff_ne]; omega
  have hdl := hH.out.dec.1
  obtain ⟨dm, hdm⟩ : ∃ d, dec[m]? = some d := ⟨dec[m], List.getElem?_eq_getElem (by omega)⟩
  have hdv : decAt dec m = dm := by simp [decAt, hdm]
  have l0 : w.cell? ⟨D, m, none⟩ = some (.int .i64 dm) := by
    rw [hH.out.chk.db.cell m]; simp [hdm]
  have hml : m < dec.length := by omega
  have e0 := After.cell l0
  rw [hdv] at hd
  have hd' : decide (0 ≤ dm) = false := by simp; omega
  have R : Hid (rightP t bound c (f + 1) dec lst at_ harm = false) := by
    show _ = _
    obtain ⟨x, hx⟩ : ∃ x, t[m]? = some x := ⟨t[m], List.getElem?_eq_getElem hm⟩
    simp [rightP, hnn.out, hw, hi, hx, hA]
  have hA' : (nA == 0) = false := by simpa using hA
  have hA2 : (nA != 0) = true := by simpa using hA
  clear hw hi hdm hdv e0 hA
  go_enter Try.func43, Try.ntmps43
  go_wp2_with fail
  refine wp_abs (S := fun W => Ext w W ∧ W.cell? ⟨w.heap.size, 0, none⟩ = some (.int .i64 (m:Int)) ∧ W.cell? ⟨w.heap.size, 1, none⟩ = some (.slice ka nk.length kc) ∧ W.cell? ⟨w.heap.size, 2, none⟩ = some (.int .i64 nA) ∧ W.cell? ⟨w.heap.size, 3, none⟩ = some (.int .i64 nB)) ⟨by exact (by repeat' (first | (with_reducible exact Ext.refl _) | (with_reducible assumption) | (with_reducible refine Ext.drewN ?_ _) | (with_reducible refine Ext.drew ?_) | (with_reducible refine Ext.alloc ?_ _) | (with_reducible refine Ext.trans ?_ (by with_reducible assumption)))), by simp, by simp, by simp, by simp⟩ ?_
  rintro W ⟨hx, n0, n1, n2, n3⟩
  have m0 := After.cell n0
  have m2 := After.cell n2
  have m3 := After.cell n3
  have d0 := After.cell (hx.cell k0)
  have d3 := After.cell (hx.cell k3)
  go_wp2_with fail
  have e0 := After.cell (hx.cell l0)
  refine wp_region_after (by kernel_rfl) (by kernel_rfl) ?_
  repeat (go_big_quiet_step (exact After.call _ (by first | (with_reducible exact hI1.out _) | exact hcl.out _ (After.ext _))))
  refine wpQuiet_nil ?_
  rintro _ ⟨z, rfl⟩
  go_wp2
  go_ret
  rw [R.out]
  exact ⟨rfl, Keep.of_ext (hx.trans z.ext), fun h => by cases h⟩
set_option maxHeartbeats 1600000 in
set_option maxRecDepth 100000 in
theorem right_clB (w0 w : World) (K D : Nat) (tv cv : Value) (t : List WishD) (bound : Int) (c : List NodeD) (dec : List Int) (lst : Int) (f at_ : Nat) (harm : Int) (n : NodeD)
    (H : RightIn w0 w K D tv cv t bound c dec lst (f + 1) at_ harm) (hn : c[at_]? = some n) (hw : n.wish ≠ -1) (hi : idxB n.wish t.length = true) (hd : decAt dec n.wish < 0) (hA : n.clA = 0) (hB : n.clB ≠ 0) :
    Calls Try.prog 43 #[.pointer (some ⟨K, 0, none⟩), .int .i64 at_, .int .i64 harm] w (RightOut w0 w K D tv cv t bound c dec lst (rightP t bound c (f + 1) dec lst at_ harm)) := by
  have hH := Lib.hid H
  have hnn := Lib.hid hn
  obtain ⟨ta, tc, rfl, _, _, hat⟩ := H.chk.wishes.open
  obtain ⟨ca, cc, rfl, hcn, hcc, hca⟩ := H.chk.nodes.open
  obtain ⟨b1, o1, n', ka, kc, rfl, hb1, _, en, g0, g1, g2, g3, gk⟩ := hca at_ H.lt w H.chk.ext
  obtain rfl : n = n' := Option.some.inj (hn.symm.trans en.out)
  have k0 : w.cell? ⟨K, 0, none⟩ = some (.slice ta t.length tc) := H.chk.blk.cell 0
  have k2 : w.cell? ⟨K, 2, none⟩ = some (.slice (some ⟨b1, o1, none⟩) c.length cc) := H.chk.blk.cell 2
  have k3 : w.cell? ⟨K, 3, none⟩ = some (.slice (some ⟨D, 0, none⟩) dec.length dec.length) := H.chk.blk.cell 3
  have k4 : w.cell? ⟨K, 4, none⟩ = some (.int .i64 lst) := H.chk.blk.cell 4
  have hKw : K < w.heap.size := H.chk.blk.lt
  have hDw : D < w.heap.size := H.chk.db.lt
  have hlt := H.lt
  have hfew := H.few
  have hh0 := H.h0
  have hh1 := H.h1
  have hl0 := H.l0
  have hl1 := H.l1
  have hatw := Lib.hid hat
  have hgk := Lib.hid gk
  clear H hn hat hca en gk
  obtain ⟨nw, nk, nA, nB⟩ := n
  simp only at *
  have hI1 : Hid (∀ W, Calls Try.prog 53 #[.int .i64 nw, .int .i64 t.length] W fun e w' => e = .returned (.bool true) ∧ Ext W w') := fun W => by have := index_calls nw t.length W; rwa [hi] at this
  obtain ⟨m, rfl, hm⟩ := idxB_nat hi
  have hw' : ((m : Int) == -1) = false := by rw [beq_eq_false_iff_ne]; omega
  have hdl := hH.out.dec.1
  obtain ⟨dm, hdm⟩ : ∃ d, dec[m]? = some d := ⟨dec[m], List.getElem?_eq_getElem (by omega)⟩
  have hdv : decAt dec m = dm := by simp [decAt, hdm]
  have l0 : w.cell? ⟨D, m, none⟩ = some (.int .i64 dm) := by
    rw [hH.out.chk.db.cell m]; simp [hdm]
  have hml : m < dec.length := by omega
  have e0 := After.cell l0
  rw [hdv] at hd
  have hd' : decide (0 ≤ dm) = false := by simp; omega
  subst hA
  have R : Hid (rightP t bound c (f + 1) dec lst at_ harm = false) := by
    show _ = _
    obtain ⟨x, hx⟩ : ∃ x, t[m]? = some x := ⟨t[m], List.getElem?_eq_getElem hm⟩
    simp [rightP, hnn.out, hw, hi, hx, hB]
  have hB' : (nB == 0) = false := by simpa using hB
  clear hw hi hdm hdv e0 hB
  go_enter Try.func43, Try.ntmps43
  go_wp2_with fail
  refine wp_abs (S := fun W => Ext w W ∧ W.cell? ⟨w.heap.size, 0, none⟩ = some (.int .i64 (m:Int)) ∧ W.cell? ⟨w.heap.size, 1, none⟩ = some (.slice ka nk.length kc) ∧ W.cell? ⟨w.heap.size, 2, none⟩ = some (.int .i64 0) ∧ W.cell? ⟨w.heap.size, 3, none⟩ = some (.int .i64 nB)) ⟨by exact (by repeat' (first | (with_reducible exact Ext.refl _) | (with_reducible assumption) | (with_reducible refine Ext.drewN ?_ _) | (with_reducible refine Ext.drew ?_) | (with_reducible refine Ext.alloc ?_ _) | (with_reducible refine Ext.trans ?_ (by with_reducible assumption)))), by simp, by simp, by simp, by simp⟩ ?_
  rintro W ⟨hx, n0, n1, n2, n3⟩
  have m0 := After.cell n0
  have m2 := After.cell n2
  have m3 := After.cell n3
  have d0 := After.cell (hx.cell k0)
  have d3 := After.cell (hx.cell k3)
  go_wp2_with fail
  have e0 := After.cell (hx.cell l0)
  refine wp_region_after (by kernel_rfl) (by kernel_rfl) ?_
  repeat (go_big_quiet_step (exact After.call _ (by first | (with_reducible exact hI1.out _) | exact hcl.out _ (After.ext _))))
  refine wpQuiet_nil ?_
  rintro _ ⟨z, rfl⟩
  go_wp2
  go_ret
  rw [R.out]
  exact ⟨rfl, Keep.of_ext (hx.trans z.ext), fun h => by cases h⟩
end Go.Proofs.Ytonmlmkemliefaa
