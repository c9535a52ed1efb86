/- Walks of the check: right, a node that decides a wish. -/
import Derived.Test.YtonmlmkemliefaaRightA
namespace Go.Proofs.Ytonmlmkemliefaa
open Go.RowKit


set_option maxHeartbeats 1600000 in
set_option maxRecDepth 100000 in
theorem right_len (w0 w : World) (K D : Nat) (tv cv : Value) (t : List WishD) (bound : Int) (c : List NodeD) (dec : List Int) (lst : Int) (f at_ : Nat) (harm : Int) (n : NodeD)
    (H : RightIn w0 w K D tv cv t bound c dec lst (f + 1) at_ harm) (hn : c[at_]? = some n) (hw : n.wish ≠ -1) (hi : idxB n.wish t.length = true) (hd : decAt dec n.wish < 0) (hA : n.clA = 0) (hB : n.clB = 0) (x : WishD) (hx : t[n.wish.toNat]? = some x) (hl : n.kids.length ≠ x.opts.length) :
    Calls Try.prog 43 #[.pointer (some ⟨K, 0, none⟩), .int .i64 at_, .int .i64 harm] w (RightOut w0 w K D tv cv t bound c dec lst (rightP t bound c (f + 1) dec lst at_ harm)) := by
  have hH := Lib.hid H
  have hnn := Lib.hid hn
  obtain ⟨ta, tc, rfl, _, _, hat⟩ := H.chk.wishes.open
  obtain ⟨ca, cc, rfl, hcn, hcc, hca⟩ := H.chk.nodes.open
  obtain ⟨b1, o1, n', ka, kc, rfl, hb1', _, en, g0', g1', g2', g3', gk⟩ := hca at_ H.lt w0 (Ext.refl _)
  have g0 := H.chk.ext.cell g0'
  have g1 := H.chk.ext.cell g1'
  have g2 := H.chk.ext.cell g2'
  have g3 := H.chk.ext.cell g3'
  have hb1 : b1 < w.heap.size := Nat.lt_of_lt_of_le hb1' H.chk.ext.size
  clear g0' g1' g2' g3' hb1'
  obtain rfl : n = n' := Option.some.inj (hn.symm.trans en.out)
  have k0 : w.cell? ⟨K, 0, none⟩ = some (.slice ta t.length tc) := H.chk.blk.cell 0
  have k2 : w.cell? ⟨K, 2, none⟩ = some (.slice (some ⟨b1, o1, none⟩) c.length cc) := H.chk.blk.cell 2
  have k3 : w.cell? ⟨K, 3, none⟩ = some (.slice (some ⟨D, 0, none⟩) dec.length dec.length) := H.chk.blk.cell 3
  have k4 : w.cell? ⟨K, 4, none⟩ = some (.int .i64 lst) := H.chk.blk.cell 4
  have hKw : K < w.heap.size := H.chk.blk.lt
  have hDw : D < w.heap.size := H.chk.db.lt
  have hlt := H.lt
  have hfew := H.few
  have hh0 := H.h0
  have hh1 := H.h1
  have hl0 := H.l0
  have hl1 := H.l1
  have hatw := Lib.hid hat
  have hgk := Lib.hid gk
  clear H hn hat hca en gk
  obtain ⟨nw, nk, nA, nB⟩ := n
  simp only at *
  have hI1 : Hid (∀ W, Calls Try.prog 53 #[.int .i64 nw, .int .i64 t.length] W fun e w' => e = .returned (.bool true) ∧ Ext W w') := fun W => by have := index_calls nw t.length W; rwa [hi] at this
  obtain ⟨m, rfl, hm⟩ := idxB_nat hi
  have hw' : ((m : Int) == -1) = false := by rw [beq_eq_false_iff_ne]; omega
  have hdl := hH.out.dec.1
  obtain ⟨dm, hdm⟩ : ∃ d, dec[m]? = some d := ⟨dec[m], List.getElem?_eq_getElem (by omega)⟩
  have hdv : decAt dec m = dm := by simp [decAt, hdm]
  have l0 : w.cell? ⟨D, m, none⟩ = some (.int .i64 dm) := by
    rw [hH.out.chk.db.cell m]; simp [hdm]
  have hml : m < dec.length := by omega
  have e0 := After.cell l0
  have hd1 : dm < 0 := by rw [hdv] at hd; exact hd
  have hd' : decide (0 ≤ dm) = false := by simp; omega
  subst hA hB
  obtain ⟨b2, o2, x', xa, xc, oa, oc, rfl, hb2', _, ex, w0'', w1'', w2'', gp, go⟩ := hatw.out m hm w0 (Ext.refl _)
  have w0' := hH.out.chk.ext.cell w0''
  have w1' := hH.out.chk.ext.cell w1''
  have w2' := hH.out.chk.ext.cell w2''
  have hb2 : b2 < w.heap.size := Nat.lt_of_lt_of_le hb2' hH.out.chk.ext.size
  have hgo := Lib.hid go
  have hgp := Lib.hid gp
  clear w0'' w1'' w2'' hb2' go gp
  obtain rfl : x = x' := Option.some.inj (hx.symm.trans ex.out)
  have hl' : ((nk.length : Int) != (x.opts.length : Int)) = true := by rw [bne_iff_ne]; omega
  have R : Hid (rightP t bound c (f + 1) dec lst at_ harm = false) := by
    show _ = _
    have hx' : t[m]? = some x := hx
    simp [rightP, hnn.out, hw, hi, hx', hl]
  clear hw hi hdm hdv e0 hx hd hl
  go_enter Try.func43, Try.ntmps43
  go_wp2_with fail
  refine wp_abs (S := fun W => Ext w W ∧ W.cell? ⟨w.heap.size, 0, none⟩ = some (.int .i64 (m:Int)) ∧ W.cell? ⟨w.heap.size, 1, none⟩ = some (.slice ka nk.length kc) ∧ W.cell? ⟨w.heap.size, 2, none⟩ = some (.int .i64 0) ∧ W.cell? ⟨w.heap.size, 3, none⟩ = some (.int .i64 0)) ⟨by exact (by repeat' (first | (with_reducible exact Ext.refl _) | (with_reducible assumption) | (with_reducible refine Ext.drewN ?_ _) | (with_reducible refine Ext.drew ?_) | (with_reducible refine Ext.alloc ?_ _) | (with_reducible refine Ext.trans ?_ (by with_reducible assumption)))), by simp, by simp, by simp, by simp⟩ ?_
  rintro W ⟨hx, n0, n1, n2, n3⟩
  have m0 := After.cell n0
  have m2 := After.cell n2
  have m3 := After.cell n3
  have d0 := After.cell (hx.cell k0)
  have d3 := After.cell (hx.cell k3)
  go_wp2_with fail
  have e0 := After.cell (hx.cell l0)
  refine wp_region_after (by kernel_rfl) (by kernel_rfl) ?_
  repeat (go_big_quiet_step (exact After.call _ (by first | (with_reducible exact hI1.out _) | exact hcl.out _ (After.ext _))))
  refine wpQuiet_nil ?_
  rintro _ ⟨z, rfl⟩
  go_step; go_step
  refine wp_abs (S := fun W' => Ext W W') z.ext ?_
  clear z m0 m2 m3 d0 d3 e0
  intro W2 hx2
  have hxx := hx.trans hx2
  have v0 := hx2.cell n0
  have v1 := hx2.cell n1
  have vK := hxx.cell k0
  have vx0 := hxx.cell w0'
  have vx1 := hxx.cell w1'
  have vx2 := hxx.cell w2'
  have sz2 := hxx.size
  have hwW : w.heap.size < W2.heap.size := World.block_lt_of_cell? _ _ v0
  have hb22 : b2 < W2.heap.size := by omega
  have hK2 : K < W2.heap.size := by omega
  go_wp2_with fail
  go_region
  go_step; go_step
  go_wp2
  go_ret
  rw [R.out]
  exact ⟨rfl, Keep.of_ext ((hxx.alloc _).drew), fun h => by cases h⟩
end Go.Proofs.Ytonmlmkemliefaa
