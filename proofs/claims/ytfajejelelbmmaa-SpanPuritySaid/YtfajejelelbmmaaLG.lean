/- The law SpanPurity, walked: true for every two lists. -/
import Derived.Test.YtfajejelelbmmaaLB
namespace Go.Proofs.Ytfajejelelbmmaa
open Go.RowKit

/-- a row of spans that may be written in blocks of X -/
def Wr (X : Nat → Prop) (w : World) (A : Option Addr) (n C : Nat) : Prop :=
  n ≤ C ∧ C ≤ 9223372036854775807 ∧ (0 < n → ∃ b cs, A = some ⟨b, 0, none⟩ ∧ X b ∧ Blk w b 25 cs ∧ n * 2 ≤ cs.size)
section
variable {X Y : Nat → Prop} {w w' : World} {A : Option Addr} {n C : Nat} {v : Value} {l : List (Int × Int)} {B : Nat}
theorem Wr.ext (h : Wr X w A n C) (k : Ext w w') : Wr X w' A n C :=
  ⟨h.1, h.2.1, fun h0 => let ⟨b, cs, e, hx, hb, hs⟩ := h.2.2 h0; ⟨b, cs, e, hx, hb.below k hb.lt, hs⟩⟩
theorem Wr.mono (h : Wr X w A n C) (k : ∀ b, X b → Y b) : Wr Y w A n C :=
  ⟨h.1, h.2.1, fun h0 => let ⟨b, cs, e, hx, hb, hs⟩ := h.2.2 h0; ⟨b, cs, e, k b hx, hb, hs⟩⟩
theorem Wr.set_ (h : Wr X w A n C) (g i : Nat) (u : Value) : Wr X (w.setCell ⟨g, i, none⟩ u) A n C :=
  ⟨h.1, h.2.1, fun h0 => by
    obtain ⟨b, cs, e, hx, hb, hs⟩ := h.2.2 h0
    by_cases hbg : b = g
    · subst hbg
      exact ⟨b, _, e, hx, hb.set_ i u, by rw [Array.size_setIfInBounds]; exact hs⟩
    · exact ⟨b, cs, e, hx, hb.far hbg u, hs⟩⟩
theorem SpansO.wr (h : SpansO w B v l) : ∃ A C, v = .slice A l.length C ∧ Wr (fun b => B ≤ b ∧ b < w.heap.size) w A l.length C := by
  rcases h.2 with ⟨rfl, h0⟩ | ⟨g, cap, cur, rfl, hb, hg, hn, hc, hs, _⟩
  · rw [h0]
    exact ⟨none, 0, rfl, Nat.le_refl _, by omega, fun h => absurd h (by omega)⟩
  · have hB : Blk w g 25 cur := hg
    exact ⟨_, _, rfl, hn, hc, fun _ => ⟨g, cur, rfl, ⟨hb, hB.lt⟩, hB, by omega⟩⟩
theorem SpansR.wr (h : SpansR w B v l) : ∃ A C, v = .slice A l.length C ∧ Wr (fun b => B ≤ b ∧ b < w.heap.size) w A l.length C := by
  rcases h with ⟨g, c, cs, rfl, hn, hc, hb, hB, h⟩ | ⟨rfl, rfl⟩
  · refine ⟨_, _, rfl, hn, hc, fun h0 => ⟨g, cs, rfl, ⟨hb, hB.lt⟩, hB, ?_⟩⟩
    have h1 := h (l.length * 2 - 1) (by omega)
    have h2 := spanCells_at (l := l) (l.length - 1) _ (List.getElem?_eq_getElem (by omega))
    have e : (l.length - 1) * 2 + 1 = l.length * 2 - 1 := by omega
    rw [e] at h2
    rw [h2.2] at h1
    have := (Array.getElem?_eq_some_iff.1 h1).1
    omega
  · exact ⟨none, 0, rfl, Nat.le_refl _, by omega, fun h => absurd h (by simp)⟩
/-- a list that lies in no block of X reads as it did -/
theorem spans_kept (h : Spans w (.slice A n C) l) (hw : Wr Y w A n C) (k : Keep X w w') (hXY : ∀ b, Y b → ¬ X b) : Spans w' (.slice A n C) l := by
  obtain ⟨a, c, e, h1, h2, h3⟩ := h
  cases e
  refine ⟨_, _, rfl, h1, h2, fun h0 => ?_⟩
  obtain ⟨b, off, ha, hb, hc⟩ := h3 h0
  obtain ⟨b2, cs, e2, hy, hB, _⟩ := hw.2.2 h0
  rw [ha] at e2
  cases e2
  exact ⟨_, _, ha, Nat.lt_of_lt_of_le hb k.size, fun i hi j hj => k.cell (hc i hi j hj) (hXY _ hy)⟩
end
/-- the written slices -/
def AllW (X : Nat → Prop) (g : Nat) (w0 w : World) : Prop := ∀ i A n C, i < 6 → w0.cell? ⟨g, i, none⟩ = some (.slice A n C) → Wr X w A n C
theorem AllW.set_ {X : Nat → Prop} {g : Nat} {w0 w : World} (h : AllW X g w0 w) (b i : Nat) (u : Value) : AllW X g w0 (w.setCell ⟨b, i, none⟩ u) :=
  fun j A n C hj hc => (h j A n C hj hc).set_ b i u
set_option maxHeartbeats 6400000 in
set_option maxRecDepth 100000 in
theorem spanPurity_calls (va : Value) (a : List (Int × Int)) (vb : Value) (b : List (Int × Int)) (w : World) (ha : Spans w va a) (hb : Spans w vb b) :
    Calls Try.prog 12 #[va, vb] w fun e w' => e = .returned (.bool true) ∧ Ext w w' := by
  have ha' := Lib.hid ha
  have hb' := Lib.hid hb
  obtain ⟨j0, hj0, jz0, jz1, jz2⟩ := info_parts span_info
  obtain ⟨aA, aC, rfl⟩ := ha.form
  obtain ⟨bA, bC, rfl⟩ := hb.form
  clear ha hb
  go_enter Try.func12, Try.ntmps12
  go_wp2_with fail
  refine (sanity12_calls w).mono ?_
  rintro e w0 ⟨rfl, hx0⟩
  have hE := Lib.hid hx0
  clear hx0
  go_wp2_with fail
  refine (few_calls _ a _ (ha'.out.ext (hE.out.alloc _))).mono ?_
  rintro e w00 ⟨v, x, rfl, hv, hxe, hxl, rfl⟩
  obtain ⟨pA, pC, rfl⟩ := hv.form
  have hp := Lib.hid hv
  clear hv
  have lw := hE.out.size
  go_wp2_with (at_builtin; refine wpList_append_any _ rfl (.tmp 23) (.tmp 25) _ rfl w.heap.size 25 j0 _ 2 16 Try.underlying22 hj0 jz0 jz1 jz2 rfl (by decide) (.slice (some ⟨w0.heap.size, 0, none⟩) 0 0) 0 [] rfl (World.ownsRow_lit (e := 25) (size := 2) w0 #[] 0 lw (by unfold maxLen; omega) rfl) (w0.heap.size + 1) pA x.length pC _ rfl (hp.out.reads.more (by simp only [World.size_alloc]; omega)) (span_one (l := x)) (by unfold maxLen; omega) (by omega) (by rw [World.size_alloc]; omega) ?_; intro v5 w5 hown5 hg5 hat5; have hq : Ext w0 w5 := (((Ext.refl w0).alloc (.cells #[] 25)).grown hg5 (by intro k hk; cases hk; exact Nat.le_refl _)); have hO5 : SpansO w5 w.heap.size v5 x := (by unfold SpansO; simpa using hown5); clear hown5 hg5 hat5)
  obtain ⟨xA, xC, rfl, hxW⟩ := hO5.wr
  have hx := Lib.hid hO5.read
  have hxO := Lib.hid hxW
  have hq1 := hq
  replace hE := Lib.hid (hE.out.trans hq)
  clear hq hO5 hxW hp hq1 lw
  go_wp2_with fail
  refine (few_calls _ b _ (hb'.out.ext (hE.out.alloc _))).mono ?_
  rintro e w00 ⟨v, y, rfl, hv, hye, hyl, rfl⟩
  obtain ⟨pA, pC, rfl⟩ := hv.form
  have hp := Lib.hid hv
  clear hv
  have lw := hE.out.size
  go_wp2_with (at_builtin; refine wpList_append_any _ rfl (.tmp 27) (.tmp 29) _ rfl w.heap.size 25 j0 _ 2 16 Try.underlying22 hj0 jz0 jz1 jz2 rfl (by decide) (.slice (some ⟨w5.heap.size, 0, none⟩) 0 0) 0 [] rfl (World.ownsRow_lit (e := 25) (size := 2) w5 #[] 0 lw (by unfold maxLen; omega) rfl) (w5.heap.size + 1) pA y.length pC _ rfl (hp.out.reads.more (by simp only [World.size_alloc]; omega)) (span_one (l := y)) (by unfold maxLen; omega) (by omega) (by rw [World.size_alloc]; omega) ?_; intro v5 w6 hown5 hg5 hat5; have hq : Ext w5 w6 := (((Ext.refl w5).alloc (.cells #[] 25)).grown hg5 (by intro k hk; cases hk; exact Nat.le_refl _)); have hO5 : SpansO w6 w.heap.size v5 y := (by unfold SpansO; simpa using hown5); clear hown5 hg5 hat5)
  clear lw
  obtain ⟨yA, yC, rfl, hyW⟩ := hO5.wr
  have hy := Lib.hid hO5.read
  have wx := Lib.hid ((hxO.out.ext hq).mono (Y := fun b => w.heap.size ≤ b ∧ b < w6.heap.size) (fun b hb => ⟨hb.1, Nat.lt_of_lt_of_le hb.2 hq.size⟩))
  have wy := Lib.hid hyW
  replace hx := Lib.hid (hx.out.ext hq)
  replace hE := Lib.hid (hE.out.trans hq)
  clear hxO hq hO5 hyW hp
  have s0 := hE.out.size
  obtain ⟨⟨n1, n2⟩, kn⟩ : ∃ r, Hid (combT 0 x [] = r) := ⟨_, rfl⟩
  obtain ⟨⟨o1, o2⟩, ko⟩ : ∃ r, Hid (combT 0 x y = r) := ⟨_, rfl⟩
  obtain ⟨⟨m1, m2⟩, km⟩ : ∃ r, Hid (combT 1 x y = r) := ⟨_, rfl⟩
  obtain ⟨⟨d1, d2⟩, kd⟩ : ∃ r, Hid (combT 2 x y = r) := ⟨_, rfl⟩
  obtain ⟨⟨g1, g2⟩, kg⟩ : ∃ r, Hid (growT x 1 1 = r) := ⟨_, rfl⟩
  have hn100 : n1.length ≤ 100 := by
    have a1 := kn.out
    unfold combT at a1
    split at a1
    · cases a1
      have := comb_len 0 x []
      simp at this
      omega
    · cases a1; simp
  go_wp2_with fail
  refine (spanNorm_calls _ x _ hx.out (by omega)).mono ?_
  rintro e w7 ⟨v, rfl, hv, hq⟩
  rw [kn.out] at hv ⊢
  dsimp only at hv ⊢
  obtain ⟨nA, nC, rfl, hnW⟩ := hv.wr
  have sn := hq.size
  (try replace wx := Lib.hid (wx.out.ext hq))
  (try replace wy := Lib.hid (wy.out.ext hq))
  (try replace wn := Lib.hid (wn.out.ext hq))
  (try replace wo := Lib.hid (wo.out.ext hq))
  (try replace wm := Lib.hid (wm.out.ext hq))
  (try replace wd := Lib.hid (wd.out.ext hq))
  (try replace wz := Lib.hid (wz.out.ext hq))
  (try replace hx := Lib.hid (hx.out.ext hq))
  (try replace hy := Lib.hid (hy.out.ext hq))
  (try replace hz := Lib.hid (hz.out.ext hq))
  (try replace hn := Lib.hid (hn.out.ext hq))
  (try replace ho := Lib.hid (ho.out.ext hq))
  (try replace hm := Lib.hid (hm.out.ext hq))
  (try replace hd := Lib.hid (hd.out.ext hq))
  (try replace hp := Lib.hid (hp.out.ext hq))
  (try replace hq2 := Lib.hid (hq2.out.ext hq))
  (try replace hrn := Lib.hid (hrn.out.ext hq))
  (try replace hro := Lib.hid (hro.out.ext hq))
  (try replace hrm := Lib.hid (hrm.out.ext hq))
  (try replace hrd := Lib.hid (hrd.out.ext hq))
  (try replace hwhole := Lib.hid (hwhole.out.ext hq))
  (try replace hnone := Lib.hid (hnone.out.ext hq))
  (try replace honce := Lib.hid (honce.out.ext hq))
  (try replace htwice := Lib.hid (htwice.out.ext hq))
  (try replace hs := Lib.hid (hs.out.ext hq))
  (try replace hagain := Lib.hid (hagain.out.ext hq))
  replace hE := Lib.hid (hE.out.trans hq)
  clear hq
  have hn := Lib.hid hv.read
  have wn := Lib.hid hnW
  clear hv hnW
  go_wp2_with fail
  refine (spanUnion_calls _ _ x y _ hx.out hy.out (by omega) (by omega)).mono ?_
  rintro e w8 ⟨v, rfl, hv, hq⟩
  rw [ko.out] at hv ⊢
  dsimp only at hv ⊢
  obtain ⟨oA, oC, rfl, hoW⟩ := hv.wr
  have so := hq.size
  (try replace wx := Lib.hid (wx.out.ext hq))
  (try replace wy := Lib.hid (wy.out.ext hq))
  (try replace wn := Lib.hid (wn.out.ext hq))
  (try replace wo := Lib.hid (wo.out.ext hq))
  (try replace wm := Lib.hid (wm.out.ext hq))
  (try replace wd := Lib.hid (wd.out.ext hq))
  (try replace wz := Lib.hid (wz.out.ext hq))
  (try replace hx := Lib.hid (hx.out.ext hq))
  (try replace hy := Lib.hid (hy.out.ext hq))
  (try replace hz := Lib.hid (hz.out.ext hq))
  (try replace hn := Lib.hid (hn.out.ext hq))
  (try replace ho := Lib.hid (ho.out.ext hq))
  (try replace hm := Lib.hid (hm.out.ext hq))
  (try replace hd := Lib.hid (hd.out.ext hq))
  (try replace hp := Lib.hid (hp.out.ext hq))
  (try replace hq2 := Lib.hid (hq2.out.ext hq))
  (try replace hrn := Lib.hid (hrn.out.ext hq))
  (try replace hro := Lib.hid (hro.out.ext hq))
  (try replace hrm := Lib.hid (hrm.out.ext hq))
  (try replace hrd := Lib.hid (hrd.out.ext hq))
  (try replace hwhole := Lib.hid (hwhole.out.ext hq))
  (try replace hnone := Lib.hid (hnone.out.ext hq))
  (try replace honce := Lib.hid (honce.out.ext hq))
  (try replace htwice := Lib.hid (htwice.out.ext hq))
  (try replace hs := Lib.hid (hs.out.ext hq))
  (try replace hagain := Lib.hid (hagain.out.ext hq))
  replace hE := Lib.hid (hE.out.trans hq)
  clear hq
  have ho := Lib.hid hv.read
  have wo := Lib.hid hoW
  clear hv hoW
  go_wp2_with fail
  refine (spanMeet_calls _ _ x y _ hx.out hy.out (by omega) (by omega)).mono ?_
  rintro e w9 ⟨v, rfl, hv, hq⟩
  rw [km.out] at hv ⊢
  dsimp only at hv ⊢
  obtain ⟨mA, mC, rfl, hmW⟩ := hv.wr
  have sm := hq.size
  (try replace wx := Lib.hid (wx.out.ext hq))
  (try replace wy := Lib.hid (wy.out.ext hq))
  (try replace wn := Lib.hid (wn.out.ext hq))
  (try replace wo := Lib.hid (wo.out.ext hq))
  (try replace wm := Lib.hid (wm.out.ext hq))
  (try replace wd := Lib.hid (wd.out.ext hq))
  (try replace wz := Lib.hid (wz.out.ext hq))
  (try replace hx := Lib.hid (hx.out.ext hq))
  (try replace hy := Lib.hid (hy.out.ext hq))
  (try replace hz := Lib.hid (hz.out.ext hq))
  (try replace hn := Lib.hid (hn.out.ext hq))
  (try replace ho := Lib.hid (ho.out.ext hq))
  (try replace hm := Lib.hid (hm.out.ext hq))
  (try replace hd := Lib.hid (hd.out.ext hq))
  (try replace hp := Lib.hid (hp.out.ext hq))
  (try replace hq2 := Lib.hid (hq2.out.ext hq))
  (try replace hrn := Lib.hid (hrn.out.ext hq))
  (try replace hro := Lib.hid (hro.out.ext hq))
  (try replace hrm := Lib.hid (hrm.out.ext hq))
  (try replace hrd := Lib.hid (hrd.out.ext hq))
  (try replace hwhole := Lib.hid (hwhole.out.ext hq))
  (try replace hnone := Lib.hid (hnone.out.ext hq))
  (try replace honce := Lib.hid (honce.out.ext hq))
  (try replace htwice := Lib.hid (htwice.out.ext hq))
  (try replace hs := Lib.hid (hs.out.ext hq))
  (try replace hagain := Lib.hid (hagain.out.ext hq))
  replace hE := Lib.hid (hE.out.trans hq)
  clear hq
  have hm := Lib.hid hv.read
  have wm := Lib.hid hmW
  clear hv hmW
  go_wp2_with fail
  refine (spanMinus_calls _ _ x y _ hx.out hy.out (by omega) (by omega)).mono ?_
  rintro e w10 ⟨v, rfl, hv, hq⟩
  rw [kd.out] at hv ⊢
  dsimp only at hv ⊢
  obtain ⟨dA, dC, rfl, hdW⟩ := hv.wr
  have sd := hq.size
  (try replace wx := Lib.hid (wx.out.ext hq))
  (try replace wy := Lib.hid (wy.out.ext hq))
  (try replace wn := Lib.hid (wn.out.ext hq))
  (try replace wo := Lib.hid (wo.out.ext hq))
  (try replace wm := Lib.hid (wm.out.ext hq))
  (try replace wd := Lib.hid (wd.out.ext hq))
  (try replace wz := Lib.hid (wz.out.ext hq))
  (try replace hx := Lib.hid (hx.out.ext hq))
  (try replace hy := Lib.hid (hy.out.ext hq))
  (try replace hz := Lib.hid (hz.out.ext hq))
  (try replace hn := Lib.hid (hn.out.ext hq))
  (try replace ho := Lib.hid (ho.out.ext hq))
  (try replace hm := Lib.hid (hm.out.ext hq))
  (try replace hd := Lib.hid (hd.out.ext hq))
  (try replace hp := Lib.hid (hp.out.ext hq))
  (try replace hq2 := Lib.hid (hq2.out.ext hq))
  (try replace hrn := Lib.hid (hrn.out.ext hq))
  (try replace hro := Lib.hid (hro.out.ext hq))
  (try replace hrm := Lib.hid (hrm.out.ext hq))
  (try replace hrd := Lib.hid (hrd.out.ext hq))
  (try replace hwhole := Lib.hid (hwhole.out.ext hq))
  (try replace hnone := Lib.hid (hnone.out.ext hq))
  (try replace honce := Lib.hid (honce.out.ext hq))
  (try replace htwice := Lib.hid (htwice.out.ext hq))
  (try replace hs := Lib.hid (hs.out.ext hq))
  (try replace hagain := Lib.hid (hagain.out.ext hq))
  replace hE := Lib.hid (hE.out.trans hq)
  clear hq
  have hd := Lib.hid hv.read
  have wd := Lib.hid hdW
  clear hv hdW
  go_wp2_with fail
  refine (spanGrow_calls _ x 1 1 _ hx.out (by omega)).mono ?_
  rintro e w11 ⟨v, rfl, hv, hq⟩
  rw [kg.out] at hv ⊢
  dsimp only at hv ⊢
  obtain ⟨zA, zC, rfl, hzW⟩ := hv.wr
  have sz := hq.size
  (try replace wx := Lib.hid (wx.out.ext hq))
  (try replace wy := Lib.hid (wy.out.ext hq))
  (try replace wn := Lib.hid (wn.out.ext hq))
  (try replace wo := Lib.hid (wo.out.ext hq))
  (try replace wm := Lib.hid (wm.out.ext hq))
  (try replace wd := Lib.hid (wd.out.ext hq))
  (try replace wz := Lib.hid (wz.out.ext hq))
  (try replace hx := Lib.hid (hx.out.ext hq))
  (try replace hy := Lib.hid (hy.out.ext hq))
  (try replace hz := Lib.hid (hz.out.ext hq))
  (try replace hn := Lib.hid (hn.out.ext hq))
  (try replace ho := Lib.hid (ho.out.ext hq))
  (try replace hm := Lib.hid (hm.out.ext hq))
  (try replace hd := Lib.hid (hd.out.ext hq))
  (try replace hp := Lib.hid (hp.out.ext hq))
  (try replace hq2 := Lib.hid (hq2.out.ext hq))
  (try replace hrn := Lib.hid (hrn.out.ext hq))
  (try replace hro := Lib.hid (hro.out.ext hq))
  (try replace hrm := Lib.hid (hrm.out.ext hq))
  (try replace hrd := Lib.hid (hrd.out.ext hq))
  (try replace hwhole := Lib.hid (hwhole.out.ext hq))
  (try replace hnone := Lib.hid (hnone.out.ext hq))
  (try replace honce := Lib.hid (honce.out.ext hq))
  (try replace htwice := Lib.hid (htwice.out.ext hq))
  (try replace hs := Lib.hid (hs.out.ext hq))
  (try replace hagain := Lib.hid (hagain.out.ext hq))
  replace hE := Lib.hid (hE.out.trans hq)
  clear hq
  have hz := Lib.hid hv.read
  have wz := Lib.hid hzW
  clear hv hzW
  clear ko km kd kg kn
  go_wp2_with fail
  refine (few_calls _ a _ (ha'.out.ext hE.out)).mono ?_
  rintro e w00 ⟨v, x', rfl, hv, hxe', hxl', ew⟩
  have ew' := ew.symm
  clear ew
  subst ew'
  have e0 : x = x' := hxe.out.trans hxe'.out.symm
  subst e0
  obtain ⟨pA, pC, rfl⟩ := hv.form
  have hp := Lib.hid hv
  clear hv hxe' hxl'
  go_wp2_with fail
  refine (rSameS_calls _ _ x x _ hx.out hp.out).mono ?_
  rw [sameB_self]
  rintro e w12 ⟨rfl, hq⟩
  have ax := hq.size
  clear hp
  (try replace wx := Lib.hid (wx.out.ext hq))
  (try replace wy := Lib.hid (wy.out.ext hq))
  (try replace wn := Lib.hid (wn.out.ext hq))
  (try replace wo := Lib.hid (wo.out.ext hq))
  (try replace wm := Lib.hid (wm.out.ext hq))
  (try replace wd := Lib.hid (wd.out.ext hq))
  (try replace wz := Lib.hid (wz.out.ext hq))
  (try replace hx := Lib.hid (hx.out.ext hq))
  (try replace hy := Lib.hid (hy.out.ext hq))
  (try replace hz := Lib.hid (hz.out.ext hq))
  (try replace hn := Lib.hid (hn.out.ext hq))
  (try replace ho := Lib.hid (ho.out.ext hq))
  (try replace hm := Lib.hid (hm.out.ext hq))
  (try replace hd := Lib.hid (hd.out.ext hq))
  (try replace hp := Lib.hid (hp.out.ext hq))
  (try replace hq2 := Lib.hid (hq2.out.ext hq))
  (try replace hrn := Lib.hid (hrn.out.ext hq))
  (try replace hro := Lib.hid (hro.out.ext hq))
  (try replace hrm := Lib.hid (hrm.out.ext hq))
  (try replace hrd := Lib.hid (hrd.out.ext hq))
  (try replace hwhole := Lib.hid (hwhole.out.ext hq))
  (try replace hnone := Lib.hid (hnone.out.ext hq))
  (try replace honce := Lib.hid (honce.out.ext hq))
  (try replace htwice := Lib.hid (htwice.out.ext hq))
  (try replace hs := Lib.hid (hs.out.ext hq))
  (try replace hagain := Lib.hid (hagain.out.ext hq))
  replace hE := Lib.hid (hE.out.trans hq)
  clear hq
  go_wp2_with fail
  refine (few_calls _ b _ (hb'.out.ext hE.out)).mono ?_
  rintro e w00 ⟨v, x', rfl, hv, hxe', hxl', ew⟩
  have ew' := ew.symm
  clear ew
  subst ew'
  have e0 : y = x' := hye.out.trans hxe'.out.symm
  subst e0
  obtain ⟨pA, pC, rfl⟩ := hv.form
  have hp := Lib.hid hv
  clear hv hxe' hxl'
  go_wp2_with fail
  refine (rSameS_calls _ _ y y _ hy.out hp.out).mono ?_
  rw [sameB_self]
  rintro e w13 ⟨rfl, hq⟩
  have ay := hq.size
  clear hp
  (try replace wx := Lib.hid (wx.out.ext hq))
  (try replace wy := Lib.hid (wy.out.ext hq))
  (try replace wn := Lib.hid (wn.out.ext hq))
  (try replace wo := Lib.hid (wo.out.ext hq))
  (try replace wm := Lib.hid (wm.out.ext hq))
  (try replace wd := Lib.hid (wd.out.ext hq))
  (try replace wz := Lib.hid (wz.out.ext hq))
  (try replace hx := Lib.hid (hx.out.ext hq))
  (try replace hy := Lib.hid (hy.out.ext hq))
  (try replace hz := Lib.hid (hz.out.ext hq))
  (try replace hn := Lib.hid (hn.out.ext hq))
  (try replace ho := Lib.hid (ho.out.ext hq))
  (try replace hm := Lib.hid (hm.out.ext hq))
  (try replace hd := Lib.hid (hd.out.ext hq))
  (try replace hp := Lib.hid (hp.out.ext hq))
  (try replace hq2 := Lib.hid (hq2.out.ext hq))
  (try replace hrn := Lib.hid (hrn.out.ext hq))
  (try replace hro := Lib.hid (hro.out.ext hq))
  (try replace hrm := Lib.hid (hrm.out.ext hq))
  (try replace hrd := Lib.hid (hrd.out.ext hq))
  (try replace hwhole := Lib.hid (hwhole.out.ext hq))
  (try replace hnone := Lib.hid (hnone.out.ext hq))
  (try replace honce := Lib.hid (honce.out.ext hq))
  (try replace htwice := Lib.hid (htwice.out.ext hq))
  (try replace hs := Lib.hid (hs.out.ext hq))
  (try replace hagain := Lib.hid (hagain.out.ext hq))
  replace hE := Lib.hid (hE.out.trans hq)
  clear hq
  have s13 : w11.heap.size ≤ w13.heap.size := Nat.le_trans ax ay
  clear ax ay ha' hb' hxe hye
  have hn' := Lib.hid (hn.out.ext ((Ext.refl w13).alloc (.cells #[] 25)))
  have lw := (Nat.le_refl w13.heap.size)
  go_wp2_with (at_builtin; refine wpList_append_any _ rfl (.tmp 71) (.tmp 72) _ rfl w13.heap.size 25 j0 _ 2 16 Try.underlying22 hj0 jz0 jz1 jz2 rfl (by decide) (.slice (some ⟨w13.heap.size, 0, none⟩) 0 0) 0 [] rfl (World.ownsRow_lit (e := 25) (size := 2) w13 #[] 0 lw (by unfold maxLen; omega) rfl) (w13.heap.size + 1) nA n1.length nC _ rfl (hn'.out.reads.more (by simp only [World.size_alloc]; omega)) (span_one (l := n1)) (by unfold maxLen; omega) (by omega) (by rw [World.size_alloc]; omega) ?_; intro v5 w14 hown5 hg5 hat5; have hq : Ext w13 w14 := (((Ext.refl w13).alloc (.cells #[] 25)).grown hg5 (by intro k hk; cases hk; exact Nat.le_refl _)); have hO5 : SpansO w14 w13.heap.size v5 n1 := (by unfold SpansO; simpa using hown5); clear hown5 hg5 hat5)
  clear lw hn'
  obtain ⟨kA, kC, rfl, hkW⟩ := hO5.wr
  have hk := Lib.hid hO5.read
  have s14 := hq.size
  (try replace wx := Lib.hid (wx.out.ext hq))
  (try replace wy := Lib.hid (wy.out.ext hq))
  (try replace wn := Lib.hid (wn.out.ext hq))
  (try replace wo := Lib.hid (wo.out.ext hq))
  (try replace wm := Lib.hid (wm.out.ext hq))
  (try replace wd := Lib.hid (wd.out.ext hq))
  (try replace wz := Lib.hid (wz.out.ext hq))
  (try replace hx := Lib.hid (hx.out.ext hq))
  (try replace hy := Lib.hid (hy.out.ext hq))
  (try replace hz := Lib.hid (hz.out.ext hq))
  (try replace hn := Lib.hid (hn.out.ext hq))
  (try replace ho := Lib.hid (ho.out.ext hq))
  (try replace hm := Lib.hid (hm.out.ext hq))
  (try replace hd := Lib.hid (hd.out.ext hq))
  (try replace hp := Lib.hid (hp.out.ext hq))
  (try replace hq2 := Lib.hid (hq2.out.ext hq))
  (try replace hrn := Lib.hid (hrn.out.ext hq))
  (try replace hro := Lib.hid (hro.out.ext hq))
  (try replace hrm := Lib.hid (hrm.out.ext hq))
  (try replace hrd := Lib.hid (hrd.out.ext hq))
  (try replace hwhole := Lib.hid (hwhole.out.ext hq))
  (try replace hnone := Lib.hid (hnone.out.ext hq))
  (try replace honce := Lib.hid (honce.out.ext hq))
  (try replace htwice := Lib.hid (htwice.out.ext hq))
  (try replace hs := Lib.hid (hs.out.ext hq))
  (try replace hagain := Lib.hid (hagain.out.ext hq))
  replace hE := Lib.hid (hE.out.trans hq)
  clear hq
  have wk := Lib.hid hkW
  clear hO5 hkW
  go_upto_region 12 with (fail)
  refine wp_abs (S := fun W => Hid (Ext w14 W) ∧ Hid (Blk W w14.heap.size 22 #[.slice oA o1.length oC, .slice mA m1.length mC, .slice dA d1.length dC, .slice zA g1.length zC, .slice xA x.length xC, .slice yA y.length yC])) ?_ ?_
  · exact ⟨Lib.hid (by exact (by repeat' (first | (with_reducible exact Ext.refl _) | (with_reducible assumption) | (with_reducible refine Ext.drewN ?_ _) | (with_reducible refine Ext.drew ?_) | (with_reducible refine Ext.alloc ?_ _) | (with_reducible refine Ext.trans ?_ (by with_reducible assumption))))), Lib.hid (blk_new' rfl rfl)⟩
  rintro W0 ⟨hq', hB⟩
  have hq := hq'.out
  replace hk := Lib.hid (hk.out.ext hq)
  replace wk := Lib.hid (wk.out.ext hq)
  (try replace wx := Lib.hid (wx.out.ext hq))
  (try replace wy := Lib.hid (wy.out.ext hq))
  (try replace wn := Lib.hid (wn.out.ext hq))
  (try replace wo := Lib.hid (wo.out.ext hq))
  (try replace wm := Lib.hid (wm.out.ext hq))
  (try replace wd := Lib.hid (wd.out.ext hq))
  (try replace wz := Lib.hid (wz.out.ext hq))
  (try replace hx := Lib.hid (hx.out.ext hq))
  (try replace hy := Lib.hid (hy.out.ext hq))
  (try replace hz := Lib.hid (hz.out.ext hq))
  (try replace hn := Lib.hid (hn.out.ext hq))
  (try replace ho := Lib.hid (ho.out.ext hq))
  (try replace hm := Lib.hid (hm.out.ext hq))
  (try replace hd := Lib.hid (hd.out.ext hq))
  (try replace hp := Lib.hid (hp.out.ext hq))
  (try replace hq2 := Lib.hid (hq2.out.ext hq))
  (try replace hrn := Lib.hid (hrn.out.ext hq))
  (try replace hro := Lib.hid (hro.out.ext hq))
  (try replace hrm := Lib.hid (hrm.out.ext hq))
  (try replace hrd := Lib.hid (hrd.out.ext hq))
  (try replace hwhole := Lib.hid (hwhole.out.ext hq))
  (try replace hnone := Lib.hid (hnone.out.ext hq))
  (try replace honce := Lib.hid (honce.out.ext hq))
  (try replace htwice := Lib.hid (htwice.out.ext hq))
  (try replace hs := Lib.hid (hs.out.ext hq))
  (try replace hagain := Lib.hid (hagain.out.ext hq))
  replace hE := Lib.hid (hE.out.trans hq)
  clear hq
  clear hq'
  obtain ⟨X, hX⟩ : ∃ X : Nat → Prop, Hid (∀ b, X b ↔ (w.heap.size ≤ b ∧ b < w6.heap.size) ∨ (w7.heap.size ≤ b ∧ b < w11.heap.size)) := ⟨_, Lib.hid fun b => Iff.rfl⟩
  have hcell : Hid (∀ i, i < 6 → ∃ A n C, W0.cell? ⟨w14.heap.size, i, none⟩ = some (.slice A n C) ∧ Wr X W0 A n C) := Lib.hid (by
    intro i hi
    match i, hi with
    | 0, _ => exact ⟨_, _, _, hB.out.cell 0, wo.out.mono fun b hb => (hX.out b).2 (by omega)⟩
    | 1, _ => exact ⟨_, _, _, hB.out.cell 1, wm.out.mono fun b hb => (hX.out b).2 (by omega)⟩
    | 2, _ => exact ⟨_, _, _, hB.out.cell 2, wd.out.mono fun b hb => (hX.out b).2 (by omega)⟩
    | 3, _ => exact ⟨_, _, _, hB.out.cell 3, wz.out.mono fun b hb => (hX.out b).2 (by omega)⟩
    | 4, _ => exact ⟨_, _, _, hB.out.cell 4, wx.out.mono fun b hb => (hX.out b).2 (by omega)⟩
    | 5, _ => exact ⟨_, _, _, hB.out.cell 5, wy.out.mono fun b hb => (hX.out b).2 (by omega)⟩)
  have hAW0 : Hid (AllW X w14.heap.size W0 W0) := Lib.hid fun i A n C hi hc => by
    obtain ⟨A', n', C', hc', hw⟩ := hcell.out i hi
    rw [hc] at hc'; cases hc'; exact hw
  have gX : ¬ X w14.heap.size := fun h => by have := (hX.out _).1 h; omega
  clear wo wm wd wz wx wy hB hx hy ho hm hd hz
  go_loopw [20] (fun vi wr => ∃ i : Nat, i ≤ 6 ∧ vi = .int .i64 i ∧ Hid (Keep X W0 wr) ∧ Hid (AllW X w14.heap.size W0 wr)) (fun vi _ => 6 - (intOf vi).toNat)
  case atStart => exact ⟨0, by omega, rfl, Lib.hid (Keep.refl _ _), hAW0⟩
  case round =>
    clear hAW0
    obtain ⟨i, hi, rfl, hK, hAW⟩ := hrel
    by_cases h1 : i < 6
    · obtain ⟨A, n, C, hc, hw0⟩ := hcell.out i h1
      obtain ⟨hn1, hn2, _⟩ := hw0
      have hc' := Lib.hid hc
      clear hc
      have cr := hK.out.cell hc'.out gX
      go_wp2_with fail
      go_loopw [21] (fun vk wr => ∃ k : Nat, k ≤ n ∧ vk = .int .i64 k ∧ Hid (Keep X W0 wr) ∧ Hid (AllW X w14.heap.size W0 wr)) (fun vk _ => n - (intOf vk).toNat)
      case atStart => exact ⟨0, by omega, rfl, hK, hAW⟩
      case round =>
        clear cr hK hAW
        obtain ⟨k, hk, rfl, hK, hAW⟩ := hrel
        have cr := hK.out.cell hc'.out gX
        by_cases h2 : k < n
        · obtain ⟨b1, cs, rfl, hXb, hBb, hsz⟩ := (hAW.out i A n C h1 hc'.out).2.2 (by omega)
          obtain ⟨u0, hu0⟩ : ∃ u, cs[k * 2]? = some u := ⟨_, Array.getElem?_eq_getElem (by omega)⟩
          obtain ⟨u1, hu1⟩ : ∃ u, cs[k * 2 + 1]? = some u := ⟨_, Array.getElem?_eq_getElem (by omega)⟩
          have c0 : wr.cell? ⟨b1, k * 2, none⟩ = some u0 := (hBb.cell _).trans hu0
          have c1 : wr.cell? ⟨b1, k * 2 + 1, none⟩ = some u1 := (hBb.cell _).trans hu1
          have f0 := hBb.frozen (k * 2)
          have f1 := hBb.frozen (k * 2 + 1)
          have hlt := hBb.lt
          have hK2 : Hid (Keep X W0 ((wr.setCell ⟨b1, k * 2, none⟩ (.int .i64 77)).setCell ⟨b1, k * 2 + 1, none⟩ (.int .i64 78))) := Lib.hid ((hK.out.setCell (p := ⟨b1, k * 2, none⟩) (Or.inl hXb) _).setCell (p := ⟨b1, k * 2 + 1, none⟩) (Or.inl hXb) _)
          have hA2 : Hid (AllW X w14.heap.size W0 ((wr.setCell ⟨b1, k * 2, none⟩ (.int .i64 77)).setCell ⟨b1, k * 2 + 1, none⟩ (.int .i64 78))) := Lib.hid ((hAW.out.set_ _ _ _).set_ _ _ _)
          clear hBb hu0 hu1 hK hAW
          go_wp2
          go_roundw
          case rel => exact ⟨k + 1, by omega, by go_num, hK2, hA2⟩
          case measure => simp [intOf]; omega
        · go_wp2
          go_roundw
          case rel => exact ⟨i + 1, by omega, by go_num, hK, hAW⟩
          case measure => simp [intOf]; omega
    · have hE1 := Lib.hid (Keep.trans (Keep.of_ext hE.out) hK.out)
      have hn1 := Lib.hid (spans_kept hn.out wn.out hK.out (fun b hb h => by have := (hX.out b).1 h; omega))
      have hk1 := Lib.hid (spans_kept hk.out wk.out hK.out (fun b hb h => by have := (hX.out b).1 h; omega))
      go_wp2_with fail
      refine (rSameS_calls _ _ n1 n1 _ hn1.out hk1.out).mono ?_
      rw [sameB_self]
      rintro e w15 ⟨rfl, hq⟩
      have hfin : Hid (Ext w w15) := Lib.hid ((hE1.out.ext (fun b hb h => by have := (hX.out b).1 h; omega)).trans hq)
      go_wp2
      go_ret
      exact ⟨rfl, hfin.out⟩
end Go.Proofs.Ytfajejelelbmmaa
