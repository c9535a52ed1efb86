/- The law SpanGrowAndGapMatchReference, walked: true for every list, every three numbers and every window. -/
import Derived.Test.YtfajejelelbmmaaZC
import Derived.Test.YtfajejelelbmmaaLD
namespace Go.Proofs.Ytfajejelelbmmaa
open Go.RowKit

/-- three numbers -/
structure ThreeD where
  a : Int
  b : Int
  c : Int
def ThreeV (_ : World) (v : Value) (x : ThreeD) : Prop := v = .agg #[.int .i64 x.a, .int .i64 x.b, .int .i64 x.c]
set_option maxHeartbeats 6400000 in
set_option maxRecDepth 100000 in
theorem growGap_law (va : Value) (l : List (Int × Int)) (b0 b1 b2 wf wt : Int) (w : World) (ha : Spans w va l) :
    Calls Try.prog 3 #[va, .agg #[.int .i64 b0, .int .i64 b1, .int .i64 b2], .agg #[.int .i64 wf, .int .i64 wt]] w fun e w' => e = .returned (.bool true) ∧ Ext w w' := by
  have ha' := Lib.hid ha
  obtain ⟨aA, aC, rfl⟩ := ha.form
  clear ha
  go_enter Try.func3, Try.ntmps3
  go_upto_region 1 with (fail)
  refine wp_abs (S := fun W => Hid (Ext w W) ∧ Hid (Blk W w.heap.size 23 #[.int .i64 b0, .int .i64 b1, .int .i64 b2]) ∧ Hid (Blk W (w.heap.size + 1) 25 #[.int .i64 wf, .int .i64 wt])) ?_ ?_
  · exact ⟨Lib.hid (by exact (by repeat' (first | (with_reducible exact Ext.refl _) | (with_reducible assumption) | (with_reducible refine Ext.drewN ?_ _) | (with_reducible refine Ext.drew ?_) | (with_reducible refine Ext.alloc ?_ _) | (with_reducible refine Ext.trans ?_ (by with_reducible assumption))))), Lib.hid ((blk_new' rfl rfl).alloc _), Lib.hid (blk_new' (by simp only [World.size_alloc]) rfl)⟩
  rintro W0 ⟨hE, hS, hV⟩
  go_wp2_with fail
  refine (sanity12_calls W0).mono ?_
  rintro e w0 ⟨rfl, hq⟩
  replace hS := Lib.hid (hS.out.below hq hS.out.lt)
  replace hV := Lib.hid (hV.out.below hq hV.out.lt)
  (try replace hx := Lib.hid (hx.out.ext hq))
  (try replace hy := Lib.hid (hy.out.ext hq))
  (try replace hz := Lib.hid (hz.out.ext hq))
  (try replace hn := Lib.hid (hn.out.ext hq))
  (try replace ho := Lib.hid (ho.out.ext hq))
  (try replace hm := Lib.hid (hm.out.ext hq))
  (try replace hd := Lib.hid (hd.out.ext hq))
  (try replace hp := Lib.hid (hp.out.ext hq))
  (try replace hq2 := Lib.hid (hq2.out.ext hq))
  (try replace hrn := Lib.hid (hrn.out.ext hq))
  (try replace hro := Lib.hid (hro.out.ext hq))
  (try replace hrm := Lib.hid (hrm.out.ext hq))
  (try replace hrd := Lib.hid (hrd.out.ext hq))
  (try replace hwhole := Lib.hid (hwhole.out.ext hq))
  (try replace hnone := Lib.hid (hnone.out.ext hq))
  (try replace honce := Lib.hid (honce.out.ext hq))
  (try replace htwice := Lib.hid (htwice.out.ext hq))
  (try replace hs := Lib.hid (hs.out.ext hq))
  (try replace hagain := Lib.hid (hagain.out.ext hq))
  replace hE := Lib.hid (hE.out.trans hq)
  clear hq
  go_wp2_with fail
  refine (few_calls _ l _ (ha'.out.ext hE.out)).mono ?_
  rintro e w0 ⟨v, x, rfl, hv, hxe, hxl, rfl⟩
  obtain ⟨xA, xC, rfl⟩ := hv.form
  have hx := Lib.hid hv
  clear hv
  clear ha' hxe
  obtain ⟨⟨n1, n2⟩, kn⟩ : ∃ r, Hid (growT x b0 b1 = r) := ⟨_, rfl⟩
  have c0 : w0.cell? ⟨w.heap.size, 0, none⟩ = some (.int .i64 b0) := hS.out.cell 0
  have c1 : w0.cell? ⟨w.heap.size, 1, none⟩ = some (.int .i64 b1) := hS.out.cell 1
  have c2 : w0.cell? ⟨w.heap.size, 2, none⟩ = some (.int .i64 b2) := hS.out.cell 2
  have v0 : w0.cell? ⟨w.heap.size + 1, 0, none⟩ = some (.int .i64 wf) := hV.out.cell 0
  have v1 : w0.cell? ⟨w.heap.size + 1, 1, none⟩ = some (.int .i64 wt) := hV.out.cell 1
  go_wp2_with fail
  refine (spanGrow_calls _ x b0 b1 _ hx.out (by omega)).mono ?_
  rintro e w1 ⟨v, rfl, hv, hq⟩
  rw [kn.out] at hv ⊢
  dsimp only at hv ⊢
  obtain ⟨nA, nC, rfl⟩ := hv.read.form
  clear c0 c1 c2 v0 v1
  replace hS := Lib.hid (hS.out.below hq hS.out.lt)
  replace hV := Lib.hid (hV.out.below hq hV.out.lt)
  (try replace hx := Lib.hid (hx.out.ext hq))
  (try replace hy := Lib.hid (hy.out.ext hq))
  (try replace hz := Lib.hid (hz.out.ext hq))
  (try replace hn := Lib.hid (hn.out.ext hq))
  (try replace ho := Lib.hid (ho.out.ext hq))
  (try replace hm := Lib.hid (hm.out.ext hq))
  (try replace hd := Lib.hid (hd.out.ext hq))
  (try replace hp := Lib.hid (hp.out.ext hq))
  (try replace hq2 := Lib.hid (hq2.out.ext hq))
  (try replace hrn := Lib.hid (hrn.out.ext hq))
  (try replace hro := Lib.hid (hro.out.ext hq))
  (try replace hrm := Lib.hid (hrm.out.ext hq))
  (try replace hrd := Lib.hid (hrd.out.ext hq))
  (try replace hwhole := Lib.hid (hwhole.out.ext hq))
  (try replace hnone := Lib.hid (hnone.out.ext hq))
  (try replace honce := Lib.hid (honce.out.ext hq))
  (try replace htwice := Lib.hid (htwice.out.ext hq))
  (try replace hs := Lib.hid (hs.out.ext hq))
  (try replace hagain := Lib.hid (hagain.out.ext hq))
  replace hE := Lib.hid (hE.out.trans hq)
  clear hq
  have hn := Lib.hid hv.read
  clear hv
  have c0 : w1.cell? ⟨w.heap.size, 0, none⟩ = some (.int .i64 b0) := hS.out.cell 0
  have c1 : w1.cell? ⟨w.heap.size, 1, none⟩ = some (.int .i64 b1) := hS.out.cell 1
  have c2 : w1.cell? ⟨w.heap.size, 2, none⟩ = some (.int .i64 b2) := hS.out.cell 2
  have v0 : w1.cell? ⟨w.heap.size + 1, 0, none⟩ = some (.int .i64 wf) := hV.out.cell 0
  have v1 : w1.cell? ⟨w.heap.size + 1, 1, none⟩ = some (.int .i64 wt) := hV.out.cell 1
  go_wp2_with fail
  refine (rGrow_calls _ x b0 b1 _ hx.out (by omega)).mono ?_
  rintro e w2 ⟨v, rfl, hv, hq⟩
  rw [kn.out] at hv ⊢
  dsimp only at hv ⊢
  obtain ⟨oA, oC, rfl⟩ := hv.form
  clear c0 c1 c2 v0 v1
  replace hS := Lib.hid (hS.out.below hq hS.out.lt)
  replace hV := Lib.hid (hV.out.below hq hV.out.lt)
  (try replace hx := Lib.hid (hx.out.ext hq))
  (try replace hy := Lib.hid (hy.out.ext hq))
  (try replace hz := Lib.hid (hz.out.ext hq))
  (try replace hn := Lib.hid (hn.out.ext hq))
  (try replace ho := Lib.hid (ho.out.ext hq))
  (try replace hm := Lib.hid (hm.out.ext hq))
  (try replace hd := Lib.hid (hd.out.ext hq))
  (try replace hp := Lib.hid (hp.out.ext hq))
  (try replace hq2 := Lib.hid (hq2.out.ext hq))
  (try replace hrn := Lib.hid (hrn.out.ext hq))
  (try replace hro := Lib.hid (hro.out.ext hq))
  (try replace hrm := Lib.hid (hrm.out.ext hq))
  (try replace hrd := Lib.hid (hrd.out.ext hq))
  (try replace hwhole := Lib.hid (hwhole.out.ext hq))
  (try replace hnone := Lib.hid (hnone.out.ext hq))
  (try replace honce := Lib.hid (honce.out.ext hq))
  (try replace htwice := Lib.hid (htwice.out.ext hq))
  (try replace hs := Lib.hid (hs.out.ext hq))
  (try replace hagain := Lib.hid (hagain.out.ext hq))
  replace hE := Lib.hid (hE.out.trans hq)
  clear hq
  have ho := Lib.hid hv
  clear hv kn
  have c0 : w2.cell? ⟨w.heap.size, 0, none⟩ = some (.int .i64 b0) := hS.out.cell 0
  have c1 : w2.cell? ⟨w.heap.size, 1, none⟩ = some (.int .i64 b1) := hS.out.cell 1
  have c2 : w2.cell? ⟨w.heap.size, 2, none⟩ = some (.int .i64 b2) := hS.out.cell 2
  have v0 : w2.cell? ⟨w.heap.size + 1, 0, none⟩ = some (.int .i64 wf) := hV.out.cell 0
  have v1 : w2.cell? ⟨w.heap.size + 1, 1, none⟩ = some (.int .i64 wt) := hV.out.cell 1
  go_wp2_with fail
  refine (spanGap_calls _ x b2 wf wt _ hx.out (by omega)).mono ?_
  rintro e w3 ⟨ok, gx, gy, rfl, hgap, hq⟩
  have hgap' := Lib.hid hgap
  clear hgap c0 c1 c2 v0 v1
  replace hS := Lib.hid (hS.out.below hq hS.out.lt)
  replace hV := Lib.hid (hV.out.below hq hV.out.lt)
  (try replace hx := Lib.hid (hx.out.ext hq))
  (try replace hy := Lib.hid (hy.out.ext hq))
  (try replace hz := Lib.hid (hz.out.ext hq))
  (try replace hn := Lib.hid (hn.out.ext hq))
  (try replace ho := Lib.hid (ho.out.ext hq))
  (try replace hm := Lib.hid (hm.out.ext hq))
  (try replace hd := Lib.hid (hd.out.ext hq))
  (try replace hp := Lib.hid (hp.out.ext hq))
  (try replace hq2 := Lib.hid (hq2.out.ext hq))
  (try replace hrn := Lib.hid (hrn.out.ext hq))
  (try replace hro := Lib.hid (hro.out.ext hq))
  (try replace hrm := Lib.hid (hrm.out.ext hq))
  (try replace hrd := Lib.hid (hrd.out.ext hq))
  (try replace hwhole := Lib.hid (hwhole.out.ext hq))
  (try replace hnone := Lib.hid (hnone.out.ext hq))
  (try replace honce := Lib.hid (honce.out.ext hq))
  (try replace htwice := Lib.hid (htwice.out.ext hq))
  (try replace hs := Lib.hid (hs.out.ext hq))
  (try replace hagain := Lib.hid (hagain.out.ext hq))
  replace hE := Lib.hid (hE.out.trans hq)
  clear hq
  go_upto_region 6 with (fail)
  refine wp_abs (S := fun W => Hid (Ext w3 W) ∧ Hid (Blk W w3.heap.size 25 #[.int .i64 gx, .int .i64 gy])) ?_ ?_
  · exact ⟨Lib.hid (by exact (by repeat' (first | (with_reducible exact Ext.refl _) | (with_reducible assumption) | (with_reducible refine Ext.drewN ?_ _) | (with_reducible refine Ext.drew ?_) | (with_reducible refine Ext.alloc ?_ _) | (with_reducible refine Ext.trans ?_ (by with_reducible assumption))))), Lib.hid (blk_new' rfl rfl)⟩
  rintro W4 ⟨hq4, hG⟩
  have hq := hq4.out
  replace hS := Lib.hid (hS.out.below hq hS.out.lt)
  replace hV := Lib.hid (hV.out.below hq hV.out.lt)
  (try replace hx := Lib.hid (hx.out.ext hq))
  (try replace hy := Lib.hid (hy.out.ext hq))
  (try replace hz := Lib.hid (hz.out.ext hq))
  (try replace hn := Lib.hid (hn.out.ext hq))
  (try replace ho := Lib.hid (ho.out.ext hq))
  (try replace hm := Lib.hid (hm.out.ext hq))
  (try replace hd := Lib.hid (hd.out.ext hq))
  (try replace hp := Lib.hid (hp.out.ext hq))
  (try replace hq2 := Lib.hid (hq2.out.ext hq))
  (try replace hrn := Lib.hid (hrn.out.ext hq))
  (try replace hro := Lib.hid (hro.out.ext hq))
  (try replace hrm := Lib.hid (hrm.out.ext hq))
  (try replace hrd := Lib.hid (hrd.out.ext hq))
  (try replace hwhole := Lib.hid (hwhole.out.ext hq))
  (try replace hnone := Lib.hid (hnone.out.ext hq))
  (try replace honce := Lib.hid (honce.out.ext hq))
  (try replace htwice := Lib.hid (htwice.out.ext hq))
  (try replace hs := Lib.hid (hs.out.ext hq))
  (try replace hagain := Lib.hid (hagain.out.ext hq))
  replace hE := Lib.hid (hE.out.trans hq)
  clear hq
  have c0 : W4.cell? ⟨w.heap.size, 0, none⟩ = some (.int .i64 b0) := hS.out.cell 0
  have c1 : W4.cell? ⟨w.heap.size, 1, none⟩ = some (.int .i64 b1) := hS.out.cell 1
  have c2 : W4.cell? ⟨w.heap.size, 2, none⟩ = some (.int .i64 b2) := hS.out.cell 2
  have v0 : W4.cell? ⟨w.heap.size + 1, 0, none⟩ = some (.int .i64 wf) := hV.out.cell 0
  have v1 : W4.cell? ⟨w.heap.size + 1, 1, none⟩ = some (.int .i64 wt) := hV.out.cell 1
  clear hq4
  go_wp2_with fail
  refine (rGap_calls _ x b2 wf wt _ hx.out (by omega)).mono ?_
  rintro e w5 ⟨ok2, gx2, gy2, rfl, hgap2, hq⟩
  obtain ⟨e1, e2, e3⟩ := gapOut_unique hgap'.out hgap2
  subst e1 e2 e3
  clear hgap2 hgap' c0 c1 c2 v0 v1
  replace hG := Lib.hid (hG.out.below hq hG.out.lt)
  (try replace hx := Lib.hid (hx.out.ext hq))
  (try replace hy := Lib.hid (hy.out.ext hq))
  (try replace hz := Lib.hid (hz.out.ext hq))
  (try replace hn := Lib.hid (hn.out.ext hq))
  (try replace ho := Lib.hid (ho.out.ext hq))
  (try replace hm := Lib.hid (hm.out.ext hq))
  (try replace hd := Lib.hid (hd.out.ext hq))
  (try replace hp := Lib.hid (hp.out.ext hq))
  (try replace hq2 := Lib.hid (hq2.out.ext hq))
  (try replace hrn := Lib.hid (hrn.out.ext hq))
  (try replace hro := Lib.hid (hro.out.ext hq))
  (try replace hrm := Lib.hid (hrm.out.ext hq))
  (try replace hrd := Lib.hid (hrd.out.ext hq))
  (try replace hwhole := Lib.hid (hwhole.out.ext hq))
  (try replace hnone := Lib.hid (hnone.out.ext hq))
  (try replace honce := Lib.hid (honce.out.ext hq))
  (try replace htwice := Lib.hid (htwice.out.ext hq))
  (try replace hs := Lib.hid (hs.out.ext hq))
  (try replace hagain := Lib.hid (hagain.out.ext hq))
  replace hE := Lib.hid (hE.out.trans hq)
  clear hq
  go_upto_region 7 with (fail)
  refine wp_abs (S := fun W => Hid (Ext w5 W) ∧ Hid (Blk W w5.heap.size 25 #[.int .i64 gx, .int .i64 gy])) ?_ ?_
  · exact ⟨Lib.hid (by exact (by repeat' (first | (with_reducible exact Ext.refl _) | (with_reducible assumption) | (with_reducible refine Ext.drewN ?_ _) | (with_reducible refine Ext.drew ?_) | (with_reducible refine Ext.alloc ?_ _) | (with_reducible refine Ext.trans ?_ (by with_reducible assumption))))), Lib.hid (blk_new' rfl rfl)⟩
  rintro W6 ⟨hq6, hG2⟩
  have hq := hq6.out
  replace hG := Lib.hid (hG.out.below hq hG.out.lt)
  (try replace hx := Lib.hid (hx.out.ext hq))
  (try replace hy := Lib.hid (hy.out.ext hq))
  (try replace hz := Lib.hid (hz.out.ext hq))
  (try replace hn := Lib.hid (hn.out.ext hq))
  (try replace ho := Lib.hid (ho.out.ext hq))
  (try replace hm := Lib.hid (hm.out.ext hq))
  (try replace hd := Lib.hid (hd.out.ext hq))
  (try replace hp := Lib.hid (hp.out.ext hq))
  (try replace hq2 := Lib.hid (hq2.out.ext hq))
  (try replace hrn := Lib.hid (hrn.out.ext hq))
  (try replace hro := Lib.hid (hro.out.ext hq))
  (try replace hrm := Lib.hid (hrm.out.ext hq))
  (try replace hrd := Lib.hid (hrd.out.ext hq))
  (try replace hwhole := Lib.hid (hwhole.out.ext hq))
  (try replace hnone := Lib.hid (hnone.out.ext hq))
  (try replace honce := Lib.hid (honce.out.ext hq))
  (try replace htwice := Lib.hid (htwice.out.ext hq))
  (try replace hs := Lib.hid (hs.out.ext hq))
  (try replace hagain := Lib.hid (hagain.out.ext hq))
  replace hE := Lib.hid (hE.out.trans hq)
  clear hq
  clear hq6
  go_wp2_with fail
  refine (rSameS_calls _ _ n1 n1 _ hn.out ho.out).mono ?_
  rw [sameB_self]
  rintro e w7 ⟨rfl, hq⟩
  replace hG := Lib.hid (hG.out.below hq hG.out.lt)
  replace hG2 := Lib.hid (hG2.out.below hq hG2.out.lt)
  (try replace hx := Lib.hid (hx.out.ext hq))
  (try replace hy := Lib.hid (hy.out.ext hq))
  (try replace hz := Lib.hid (hz.out.ext hq))
  (try replace hn := Lib.hid (hn.out.ext hq))
  (try replace ho := Lib.hid (ho.out.ext hq))
  (try replace hm := Lib.hid (hm.out.ext hq))
  (try replace hd := Lib.hid (hd.out.ext hq))
  (try replace hp := Lib.hid (hp.out.ext hq))
  (try replace hq2 := Lib.hid (hq2.out.ext hq))
  (try replace hrn := Lib.hid (hrn.out.ext hq))
  (try replace hro := Lib.hid (hro.out.ext hq))
  (try replace hrm := Lib.hid (hrm.out.ext hq))
  (try replace hrd := Lib.hid (hrd.out.ext hq))
  (try replace hwhole := Lib.hid (hwhole.out.ext hq))
  (try replace hnone := Lib.hid (hnone.out.ext hq))
  (try replace honce := Lib.hid (honce.out.ext hq))
  (try replace htwice := Lib.hid (htwice.out.ext hq))
  (try replace hs := Lib.hid (hs.out.ext hq))
  (try replace hagain := Lib.hid (hagain.out.ext hq))
  replace hE := Lib.hid (hE.out.trans hq)
  clear hq
  have g0 : w7.cell? ⟨w3.heap.size, 0, none⟩ = some (.int .i64 gx) := hG.out.cell 0
  have g1 : w7.cell? ⟨w3.heap.size, 1, none⟩ = some (.int .i64 gy) := hG.out.cell 1
  have f0 : w7.cell? ⟨w5.heap.size, 0, none⟩ = some (.int .i64 gx) := hG2.out.cell 0
  have f1 : w7.cell? ⟨w5.heap.size, 1, none⟩ = some (.int .i64 gy) := hG2.out.cell 1
  have heq := span_eql gx gy gx gy
  have hgd := fun op p q => span_guard op p q gx gy gx gy
  rw [show (decide (gx = gx) && decide (gy = gy)) = true by simp] at heq
  cases ok with
  | true =>
    go_wp2
    go_ret
    exact ⟨rfl, hE.out⟩
  | false =>
    go_wp2
    go_ret
    exact ⟨rfl, hE.out⟩
theorem spanGrowAndGapMatchReference_calls (va : Value) (a : List (Int × Int)) (vb : Value) (b : ThreeD) (vs : Value) (s : Int × Int) (w : World) (ha : Spans w va a) (hb : ThreeV w vb b) (hs : SpanV w vs s) :
    Calls Try.prog 3 #[va, vb, vs] w fun e w' => e = .returned (.bool true) ∧ Ext w w' := by
  unfold SpanV at hs
  unfold ThreeV at hb
  subst hs hb
  exact growGap_law va a b.a b.b b.c s.1 s.2 w ha
end Go.Proofs.Ytfajejelelbmmaa
