/- Walks of the check: the checker's memory; closed. -/
import Derived.Test.YtonmlmkemliefaaFormB
import Derived.Test.YtonmlmkemliefaaQuietTail
import Derived.Test.YtonmlmkemliefaaPlanWalksG
namespace Go.Proofs.Ytonmlmkemliefaa
open Go.RowKit

structure Chk (w0 w : World) (K D : Nat) (tv cv : Value) (t : List WishD) (bound : Int) (c : List NodeD) (dec : List Int) (lst : Int) : Prop where
  ext : Ext w0 w
  wishes : Wishes w0 tv t
  nodes : Nodes w0 cv c
  bK : w0.heap.size ≤ K
  bD : w0.heap.size ≤ D
  blk : Blk w K 100 #[tv, .int .i64 bound, cv, .slice (some ⟨D, 0, none⟩) dec.length dec.length, .int .i64 lst]
  db : Blk w D 3 (dec.map (Value.int .i64)).toArray
def DecOk (t : List WishD) (dec : List Int) : Prop := dec.length = t.length ∧ ∀ (i : Nat) (x : WishD) (d : Int), t[i]? = some x → dec[i]? = some d → -1 ≤ d ∧ d < x.opts.length

section
variable {w0 w w' : World} {K D : Nat} {tv cv : Value} {t : List WishD} {bound : Int} {c : List NodeD} {dec : List Int} {lst : Int}
theorem Chk.toExt (h : Chk w0 w K D tv cv t bound c dec lst) (e : Ext w w') : Chk w0 w' K D tv cv t bound c dec lst := by
  have k : Keep (fun _ => False) w w' := Keep.of_ext e
  exact ⟨h.ext.trans e, h.wishes, h.nodes, h.bK, h.bD, k.blk h.blk id, k.blk h.db id⟩
theorem Chk.ne (h : Chk w0 w K D tv cv t bound c dec lst) : K ≠ D := Blk.ne_ h.blk h.db (by decide)
theorem Chk.setLst (h : Chk w0 w K D tv cv t bound c dec lst) (l : Int) : Chk w0 (w.setCell ⟨K, 4, none⟩ (.int .i64 l)) K D tv cv t bound c dec l :=
  ⟨h.ext.setCell h.bK _, h.wishes, h.nodes, h.bK, h.bD, h.blk.set_ 4 _, h.db.far h.ne.symm _⟩
theorem Chk.setDec (h : Chk w0 w K D tv cv t bound c dec lst) (i : Nat) (d : Int) : Chk w0 (w.setCell ⟨D, i, none⟩ (.int .i64 d)) K D tv cv t bound c (dec.set i d) lst := by
  have hpk := h.db.set_ i (.int .i64 d)
  have e : (dec.map (Value.int .i64)).toArray.setIfInBounds i (.int .i64 d) = ((dec.set i d).map (Value.int .i64)).toArray := by simp [List.map_set]
  rw [e] at hpk
  refine ⟨h.ext.setCell h.bD _, h.wishes, h.nodes, h.bK, h.bD, ?_, hpk⟩
  rw [List.length_set]
  exact h.blk.far h.ne _
end

def decAt (dec : List Int) (a : Int) : Int := dec[a.toNat]?.getD 0
def closedB (t : List WishD) (bound : Int) (dec : List Int) (lst clA clB harm : Int) : Bool :=
  if clA = -1 then (clB == 0) && decide (bound ≤ harm + lst)
  else if idxB clA t.length = false ∨ idxB clB t.length = false ∨ clA = clB then false
  else decide (0 ≤ decAt dec clA) && decide (0 ≤ decAt dec clB) && clashAt t dec clA.toNat clB.toNat



set_option maxHeartbeats 1600000 in
set_option maxRecDepth 100000 in
theorem closed_open (w0 w : World) (K D : Nat) (tv cv : Value) (t : List WishD) (bound : Int) (c : List NodeD) (dec : List Int) (lst wish clA clB harm : Int) (kv : Value)
    (H : Chk w0 w K D tv cv t bound c dec lst) (hd : DecOk t dec) (ht : TaskIn t) (_h1 : -1000000000000 ≤ harm + lst) (_h2 : harm + lst ≤ 2000000000000) (hA : clA = -1) :
    Calls Try.prog 64 #[.pointer (some ⟨K, 0, none⟩), .agg #[.int .i64 wish, kv, .int .i64 clA, .int .i64 clB], .int .i64 harm] w fun e w' =>
      e = .returned (.bool (closedB t bound dec lst clA clB harm)) ∧ Ext w w' := by
  have hH := Lib.hid H
  have hdd := Lib.hid hd
  have htt := Lib.hid ht
  obtain ⟨ta, tc, rfl, hn, hc, hat⟩ := H.wishes.open
  have k0 : w.cell? ⟨K, 0, none⟩ = some (.slice ta t.length tc) := H.blk.cell 0
  have k1 : w.cell? ⟨K, 1, none⟩ = some (.int .i64 bound) := H.blk.cell 1
  have k3 : w.cell? ⟨K, 3, none⟩ = some (.slice (some ⟨D, 0, none⟩) dec.length dec.length) := H.blk.cell 3
  have k4 : w.cell? ⟨K, 4, none⟩ = some (.int .i64 lst) := H.blk.cell 4
  clear H hd ht
  clear hat
  subst hA
  by_cases hB : clB = 0
  · subst hB
    have R : Hid (closedB t bound dec lst (-1) 0 harm = decide (bound ≤ harm + lst)) := by show _ = _; simp [closedB]
    go_enter Try.func64, Try.ntmps64
    go_wp2_with fail
    refine wp_abs (S := fun W => Ext w W ∧ W.cell? ⟨w.heap.size, 2, none⟩ = some (.int .i64 (-1)) ∧ W.cell? ⟨w.heap.size, 3, none⟩ = some (.int .i64 0)) ⟨by exact (by repeat' (first | (with_reducible exact Ext.refl _) | (with_reducible assumption) | (with_reducible refine Ext.drewN ?_ _) | (with_reducible refine Ext.drew ?_) | (with_reducible refine Ext.alloc ?_ _) | (with_reducible refine Ext.trans ?_ (by with_reducible assumption)))), by simp, by simp⟩ ?_
    rintro W ⟨hx, c2, c3⟩
    have d2 := After.cell c2
    have d3 := After.cell c3
    have d4 := After.cell (hx.cell k4)
    have d1 := After.cell (hx.cell k1)
    have d0 := After.cell (hx.cell k0)
    have d5 := After.cell (hx.cell k3)
    go_wp2_with fail
    refine wp_region_after (by kernel_rfl) (by kernel_rfl) ?_
    repeat (go_big_quiet_step (exact After.call _ (by first | (with_reducible exact hI1.out _) | (with_reducible exact hI2.out _) | exact hcl.out _ (After.ext _))))
    refine wpQuiet_nil ?_
    rintro _ ⟨z, rfl⟩
    go_wp2
    go_ret
    rw [R.out]
    exact ⟨rfl, hx.trans z.ext⟩
  · have R : Hid (closedB t bound dec lst (-1) clB harm = false) := by show _ = _; simp [closedB, hB]
    have hB' : (clB == 0) = false := by simpa using hB
    go_enter Try.func64, Try.ntmps64
    go_wp2_with fail
    refine wp_abs (S := fun W => Ext w W ∧ W.cell? ⟨w.heap.size, 2, none⟩ = some (.int .i64 (-1)) ∧ W.cell? ⟨w.heap.size, 3, none⟩ = some (.int .i64 clB)) ⟨by exact (by repeat' (first | (with_reducible exact Ext.refl _) | (with_reducible assumption) | (with_reducible refine Ext.drewN ?_ _) | (with_reducible refine Ext.drew ?_) | (with_reducible refine Ext.alloc ?_ _) | (with_reducible refine Ext.trans ?_ (by with_reducible assumption)))), by simp, by simp⟩ ?_
    rintro W ⟨hx, c2, c3⟩
    have d2 := After.cell c2
    have d3 := After.cell c3
    have d4 := After.cell (hx.cell k4)
    have d1 := After.cell (hx.cell k1)
    have d0 := After.cell (hx.cell k0)
    have d5 := After.cell (hx.cell k3)
    go_wp2_with fail
    refine wp_region_after (by kernel_rfl) (by kernel_rfl) ?_
    repeat (go_big_quiet_step (exact After.call _ (by first | (with_reducible exact hI1.out _) | (with_reducible exact hI2.out _) | exact hcl.out _ (After.ext _))))
    refine wpQuiet_nil ?_
    rintro _ ⟨z, rfl⟩
    go_wp2
    go_ret
    rw [R.out]
    exact ⟨rfl, hx.trans z.ext⟩

set_option maxHeartbeats 1600000 in
set_option maxRecDepth 100000 in
theorem closed_badA (w0 w : World) (K D : Nat) (tv cv : Value) (t : List WishD) (bound : Int) (c : List NodeD) (dec : List Int) (lst wish clA clB harm : Int) (kv : Value)
    (H : Chk w0 w K D tv cv t bound c dec lst) (hd : DecOk t dec) (ht : TaskIn t) (_h1 : -1000000000000 ≤ harm + lst) (_h2 : harm + lst ≤ 2000000000000) (hA : clA ≠ -1) (hI : idxB clA t.length = false) :
    Calls Try.prog 64 #[.pointer (some ⟨K, 0, none⟩), .agg #[.int .i64 wish, kv, .int .i64 clA, .int .i64 clB], .int .i64 harm] w fun e w' =>
      e = .returned (.bool (closedB t bound dec lst clA clB harm)) ∧ Ext w w' := by
  have hH := Lib.hid H
  have hdd := Lib.hid hd
  have htt := Lib.hid ht
  obtain ⟨ta, tc, rfl, hn, hc, hat⟩ := H.wishes.open
  have k0 : w.cell? ⟨K, 0, none⟩ = some (.slice ta t.length tc) := H.blk.cell 0
  have k1 : w.cell? ⟨K, 1, none⟩ = some (.int .i64 bound) := H.blk.cell 1
  have k3 : w.cell? ⟨K, 3, none⟩ = some (.slice (some ⟨D, 0, none⟩) dec.length dec.length) := H.blk.cell 3
  have k4 : w.cell? ⟨K, 4, none⟩ = some (.int .i64 lst) := H.blk.cell 4
  clear H hd ht
  clear hat
  have hA' : (clA == -1) = false := by simpa using hA
  have R : Hid (closedB t bound dec lst clA clB harm = false) := by show _ = _; simp [closedB, hA, hI]
  have hI1 : Hid (∀ W, Calls Try.prog 53 #[.int .i64 clA, .int .i64 t.length] W fun e w' => e = .returned (.bool false) ∧ Ext W w') := fun W => by have := index_calls clA t.length W; rwa [hI] at this
  clear hI hA
  go_enter Try.func64, Try.ntmps64
  go_wp2_with fail
  refine wp_abs (S := fun W => Ext w W ∧ W.cell? ⟨w.heap.size, 2, none⟩ = some (.int .i64 clA) ∧ W.cell? ⟨w.heap.size, 3, none⟩ = some (.int .i64 clB)) ⟨by exact (by repeat' (first | (with_reducible exact Ext.refl _) | (with_reducible assumption) | (with_reducible refine Ext.drewN ?_ _) | (with_reducible refine Ext.drew ?_) | (with_reducible refine Ext.alloc ?_ _) | (with_reducible refine Ext.trans ?_ (by with_reducible assumption)))), by simp, by simp⟩ ?_
  rintro W ⟨hx, c2, c3⟩
  have d2 := After.cell c2
  have d3 := After.cell c3
  have d4 := After.cell (hx.cell k4)
  have d1 := After.cell (hx.cell k1)
  have d0 := After.cell (hx.cell k0)
  have d5 := After.cell (hx.cell k3)
  go_wp2_with fail
  refine wp_region_after (by kernel_rfl) (by kernel_rfl) ?_
  repeat (go_big_quiet_step (exact After.call _ (by first | (with_reducible exact hI1.out _) | (with_reducible exact hI2.out _) | exact hcl.out _ (After.ext _))))
  refine wpQuiet_nil ?_
  rintro _ ⟨z, rfl⟩
  go_wp2
  go_ret
  rw [R.out]
  exact ⟨rfl, hx.trans z.ext⟩

set_option maxHeartbeats 1600000 in
set_option maxRecDepth 100000 in
theorem closed_badB (w0 w : World) (K D : Nat) (tv cv : Value) (t : List WishD) (bound : Int) (c : List NodeD) (dec : List Int) (lst wish clA clB harm : Int) (kv : Value)
    (H : Chk w0 w K D tv cv t bound c dec lst) (hd : DecOk t dec) (ht : TaskIn t) (_h1 : -1000000000000 ≤ harm + lst) (_h2 : harm + lst ≤ 2000000000000) (hA : clA ≠ -1) (hI : idxB clA t.length = true) (hJ : idxB clB t.length = false) :
    Calls Try.prog 64 #[.pointer (some ⟨K, 0, none⟩), .agg #[.int .i64 wish, kv, .int .i64 clA, .int .i64 clB], .int .i64 harm] w fun e w' =>
      e = .returned (.bool (closedB t bound dec lst clA clB harm)) ∧ Ext w w' := by
  have hH := Lib.hid H
  have hdd := Lib.hid hd
  have htt := Lib.hid ht
  obtain ⟨ta, tc, rfl, hn, hc, hat⟩ := H.wishes.open
  have k0 : w.cell? ⟨K, 0, none⟩ = some (.slice ta t.length tc) := H.blk.cell 0
  have k1 : w.cell? ⟨K, 1, none⟩ = some (.int .i64 bound) := H.blk.cell 1
  have k3 : w.cell? ⟨K, 3, none⟩ = some (.slice (some ⟨D, 0, none⟩) dec.length dec.length) := H.blk.cell 3
  have k4 : w.cell? ⟨K, 4, none⟩ = some (.int .i64 lst) := H.blk.cell 4
  clear H hd ht
  clear hat
  have hA' : (clA == -1) = false := by simpa using hA
  have R : Hid (closedB t bound dec lst clA clB harm = false) := by show _ = _; simp [closedB, hA, hI, hJ]
  have hI1 : Hid (∀ W, Calls Try.prog 53 #[.int .i64 clA, .int .i64 t.length] W fun e w' => e = .returned (.bool true) ∧ Ext W w') := fun W => by have := index_calls clA t.length W; rwa [hI] at this
  have hI2 : Hid (∀ W, Calls Try.prog 53 #[.int .i64 clB, .int .i64 t.length] W fun e w' => e = .returned (.bool false) ∧ Ext W w') := fun W => by have := index_calls clB t.length W; rwa [hJ] at this
  clear hI hA hJ
  go_enter Try.func64, Try.ntmps64
  go_wp2_with fail
  refine wp_abs (S := fun W => Ext w W ∧ W.cell? ⟨w.heap.size, 2, none⟩ = some (.int .i64 clA) ∧ W.cell? ⟨w.heap.size, 3, none⟩ = some (.int .i64 clB)) ⟨by exact (by repeat' (first | (with_reducible exact Ext.refl _) | (with_reducible assumption) | (with_reducible refine Ext.drewN ?_ _) | (with_reducible refine Ext.drew ?_) | (with_reducible refine Ext.alloc ?_ _) | (with_reducible refine Ext.trans ?_ (by with_reducible assumption)))), by simp, by simp⟩ ?_
  rintro W ⟨hx, c2, c3⟩
  have d2 := After.cell c2
  have d3 := After.cell c3
  have d4 := After.cell (hx.cell k4)
  have d1 := After.cell (hx.cell k1)
  have d0 := After.cell (hx.cell k0)
  have d5 := After.cell (hx.cell k3)
  go_wp2_with fail
  refine wp_region_after (by kernel_rfl) (by kernel_rfl) ?_
  repeat (go_big_quiet_step (exact After.call _ (by first | (with_reducible exact hI1.out _) | (with_reducible exact hI2.out _) | exact hcl.out _ (After.ext _))))
  refine wpQuiet_nil ?_
  rintro _ ⟨z, rfl⟩
  go_wp2
  go_ret
  rw [R.out]
  exact ⟨rfl, hx.trans z.ext⟩

set_option maxHeartbeats 1600000 in
set_option maxRecDepth 100000 in
theorem closed_same (w0 w : World) (K D : Nat) (tv cv : Value) (t : List WishD) (bound : Int) (c : List NodeD) (dec : List Int) (lst wish clA clB harm : Int) (kv : Value)
    (H : Chk w0 w K D tv cv t bound c dec lst) (hd : DecOk t dec) (ht : TaskIn t) (_h1 : -1000000000000 ≤ harm + lst) (_h2 : harm + lst ≤ 2000000000000) (hA : clA ≠ -1) (hI : idxB clA t.length = true) (hE : clA = clB) :
    Calls Try.prog 64 #[.pointer (some ⟨K, 0, none⟩), .agg #[.int .i64 wish, kv, .int .i64 clA, .int .i64 clB], .int .i64 harm] w fun e w' =>
      e = .returned (.bool (closedB t bound dec lst clA clB harm)) ∧ Ext w w' := by
  have hH := Lib.hid H
  have hdd := Lib.hid hd
  have htt := Lib.hid ht
  obtain ⟨ta, tc, rfl, hn, hc, hat⟩ := H.wishes.open
  have k0 : w.cell? ⟨K, 0, none⟩ = some (.slice ta t.length tc) := H.blk.cell 0
  have k1 : w.cell? ⟨K, 1, none⟩ = some (.int .i64 bound) := H.blk.cell 1
  have k3 : w.cell? ⟨K, 3, none⟩ = some (.slice (some ⟨D, 0, none⟩) dec.length dec.length) := H.blk.cell 3
  have k4 : w.cell? ⟨K, 4, none⟩ = some (.int .i64 lst) := H.blk.cell 4
  clear H hd ht
  clear hat
  subst hE
  have hA' : (clA == -1) = false := by simpa using hA
  have R : Hid (closedB t bound dec lst clA clA harm = false) := by show _ = _; simp [closedB, hA]
  have hI1 : Hid (∀ W, Calls Try.prog 53 #[.int .i64 clA, .int .i64 t.length] W fun e w' => e = .returned (.bool true) ∧ Ext W w') := fun W => by have := index_calls clA t.length W; rwa [hI] at this
  have hE' : (clA == clA) = true := by simp
  clear hI hA
  go_enter Try.func64, Try.ntmps64
  go_wp2_with fail
  refine wp_abs (S := fun W => Ext w W ∧ W.cell? ⟨w.heap.size, 2, none⟩ = some (.int .i64 clA) ∧ W.cell? ⟨w.heap.size, 3, none⟩ = some (.int .i64 clA)) ⟨by exact (by repeat' (first | (with_reducible exact Ext.refl _) | (with_reducible assumption) | (with_reducible refine Ext.drewN ?_ _) | (with_reducible refine Ext.drew ?_) | (with_reducible refine Ext.alloc ?_ _) | (with_reducible refine Ext.trans ?_ (by with_reducible assumption)))), by simp, by simp⟩ ?_
  rintro W ⟨hx, c2, c3⟩
  have d2 := After.cell c2
  have d3 := After.cell c3
  have d4 := After.cell (hx.cell k4)
  have d1 := After.cell (hx.cell k1)
  have d0 := After.cell (hx.cell k0)
  have d5 := After.cell (hx.cell k3)
  go_wp2_with fail
  refine wp_region_after (by kernel_rfl) (by kernel_rfl) ?_
  repeat (go_big_quiet_step (exact After.call _ (by first | (with_reducible exact hI1.out _) | (with_reducible exact hI2.out _) | exact hcl.out _ (After.ext _))))
  refine wpQuiet_nil ?_
  rintro _ ⟨z, rfl⟩
  go_wp2
  go_ret
  rw [R.out]
  exact ⟨rfl, hx.trans z.ext⟩
end Go.Proofs.Ytonmlmkemliefaa
