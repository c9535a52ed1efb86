/- The law SpanNormIsCanonical, walked: true for every list, every number and every cut. -/
import Derived.Test.YtfajejelelbmmaaLB
import Derived.Deep.LoopGhost
namespace Go.Proofs.Ytfajejelelbmmaa
open Go.RowKit

theorem norm_fix {l : List (Int × Int)} (h : chainB none l = true) : combL 0 l [] = l :=
  (comb_eq h fun t => by rw [hasB_nil]; cases hasB l t <;> rfl).symm
theorem norm_same {l m : List (Int × Int)} (h : ∀ t, hasB l t = hasB m t) : combL 0 l [] = combL 0 m [] :=
  chain_unique (comb_chain _ _ _) (comb_chain _ _ _) fun t => by rw [comb_has, comb_has, h]
theorem valid_same {x : List (Int × Int)} (hr : rangedB x = true) : sameB x (combL 0 x []) = normalB x := by
  unfold sameB
  cases hn : normalB x with
  | true =>
    have hc : chainB none x = true := by simp only [normalB, Bool.and_eq_true] at hn; exact hn.1
    rw [norm_fix hc]; simp
  | false =>
    rw [decide_eq_false_iff_not]
    intro e
    have := comb_normal (k := 0) (a := x) (b := []) hr rfl
    rw [← e, hn] at this
    cases this
/-- what the law's second list is known by -/
def OthB (x acc : List (Int × Int)) (i : Nat) : Prop := rangedB acc = true ∧ ∀ t, hasB acc t = hasB (x.drop i) t
theorem OthB.step {x acc : List (Int × Int)} {k : Nat} {u v : Int} {p q : Int × Int} (h : OthB x acc (k + 1)) (hx : x[k]? = some (u, v)) (hr : rangedB [p, q] = true) (hh : ∀ t, hasB [p, q] t = hasB [(u, v)] t) : OthB x (acc ++ [p, q]) k := by
  have hlt := (List.getElem?_eq_some_iff.1 hx).1
  have e : x.drop k = (u, v) :: x.drop (k + 1) := by rw [List.drop_eq_getElem_cons hlt, (List.getElem?_eq_some_iff.1 hx).2]
  refine ⟨?_, fun t => ?_⟩
  · have h1 := h.1
    unfold rangedB at *
    rw [List.all_append, h1, hr]; rfl
  · rw [hasB_app, h.2, hh, e, hasB_cons, hasB_cons, hasB_nil, Bool.or_false, Bool.or_comm]
theorem ranged_two {p q : Int × Int} (hp : farB p.1 = false ∧ farB p.2 = false) (hq : farB q.1 = false ∧ farB q.2 = false) : rangedB [p, q] = true := by
  simp [rangedB, hp.1, hp.2, hq.1, hq.2]
theorem far_mid {u v c : Int} (h1 : farB u = false) (h2 : farB v = false) (a : u < c) (b : c < v) : farB c = false := by
  have := far_false h1
  have := far_false h2
  simp [farB]; omega
theorem ranged_far {l : List (Int × Int)} (h : rangedB l = true) {x y : Int} (hs : (x, y) ∈ l) : farB x = false ∧ farB y = false := by
  unfold rangedB at h
  rw [List.all_eq_true] at h
  have := h _ hs
  simpa using this
set_option maxHeartbeats 3200000 in
set_option maxRecDepth 100000 in
theorem spanNormIsCanonical_calls (va : Value) (a : List (Int × Int)) (at_ : Int) (ha0 : 0 ≤ at_) (ha1 : at_ ≤ 255) (c : Int) (_ : -9223372036854775808 ≤ c) (_ : c ≤ 9223372036854775807) (w : World) (ha : Spans w va a) :
    Calls Try.prog 4 #[va, .int .u8 at_, .int .i64 c] w fun e w' => e = .returned (.bool true) ∧ Ext w w' := by
  have ha' := Lib.hid ha
  obtain ⟨j0, hj0, jz0, jz1, jz2⟩ := info_parts span_info
  obtain ⟨aA, aC, rfl⟩ := ha.form
  clear ha
  go_enter Try.func4, Try.ntmps4
  go_wp2_with fail
  refine (sanity12_calls w).mono ?_
  rintro e w0 ⟨rfl, hx0⟩
  have hE := Lib.hid hx0
  clear hx0
  go_wp2_with fail
  refine (few_calls _ a _ (ha'.out.ext hE.out)).mono ?_
  rintro e w0 ⟨v, x, rfl, hv, hxe, hxl, rfl⟩
  obtain ⟨xA, xC, rfl⟩ := hv.form
  have hx := Lib.hid hv
  clear hv
  clear ha' hxe
  obtain ⟨⟨n1, n2⟩, kn⟩ : ∃ r, Hid (combT 0 x [] = r) := ⟨_, rfl⟩
  have hcase : (n1 = [] ∧ n2 = 1) ∨ (n2 = 0 ∧ rangedB x = true ∧ Hid (combL 0 x [] = n1)) := by
    have a1 := kn.out
    cases hrx : rangedB x with
    | false => rw [combT_no (by rw [hrx]; rfl)] at a1; cases a1; exact Or.inl ⟨rfl, rfl⟩
    | true => rw [combT_ok hrx rfl] at a1; cases a1; exact Or.inr ⟨rfl, rfl, rfl⟩
  go_wp2_with fail
  refine (spanNorm_calls _ x _ hx.out (by omega)).mono ?_
  rintro e w1 ⟨v, rfl, hv, hq⟩
  rw [kn.out] at hv ⊢
  dsimp only at hv ⊢
  obtain ⟨nA, nC, rfl⟩ := hv.read.form
  (try replace hx := Lib.hid (hx.out.ext hq))
  (try replace hy := Lib.hid (hy.out.ext hq))
  (try replace hz := Lib.hid (hz.out.ext hq))
  (try replace hn := Lib.hid (hn.out.ext hq))
  (try replace ho := Lib.hid (ho.out.ext hq))
  (try replace hm := Lib.hid (hm.out.ext hq))
  (try replace hd := Lib.hid (hd.out.ext hq))
  (try replace hp := Lib.hid (hp.out.ext hq))
  (try replace hq2 := Lib.hid (hq2.out.ext hq))
  (try replace hrn := Lib.hid (hrn.out.ext hq))
  (try replace hro := Lib.hid (hro.out.ext hq))
  (try replace hrm := Lib.hid (hrm.out.ext hq))
  (try replace hrd := Lib.hid (hrd.out.ext hq))
  (try replace hwhole := Lib.hid (hwhole.out.ext hq))
  (try replace hnone := Lib.hid (hnone.out.ext hq))
  (try replace honce := Lib.hid (honce.out.ext hq))
  (try replace htwice := Lib.hid (htwice.out.ext hq))
  (try replace hs := Lib.hid (hs.out.ext hq))
  (try replace hagain := Lib.hid (hagain.out.ext hq))
  replace hE := Lib.hid (hE.out.trans hq)
  clear hq
  have hn := Lib.hid hv.read
  clear hv
  clear kn
  rcases hcase with ⟨rfl, rfl⟩ | ⟨rfl, hrx, hn1⟩
  · skip
    go_wp2
    go_ret
    exact ⟨rfl, hE.out⟩
  · have hnc : chainB none n1 = true := by rw [← hn1.out]; exact comb_chain _ _ _
    have hnn : Hid (normalB n1 = true) := Lib.hid (by rw [← hn1.out]; exact comb_normal hrx rfl)
    have hln : n1.length ≤ 60 := by have := comb_len 0 x []; rw [hn1.out] at this; simp at this; omega
    have kg : Hid (combT 0 n1 [] = (n1, 0)) := Lib.hid (by
      have hr : rangedB n1 = true := by have := hnn.out; simp only [normalB, Bool.and_eq_true] at this; exact this.2
      rw [combT_ok hr rfl, norm_fix hnc])
    have hvs : Hid (sameB x n1 = normalB x) := Lib.hid (by rw [← hn1.out]; exact valid_same hrx)
    have hrx' := Lib.hid hrx
    clear hnc hrx
    go_wp2_with fail
    refine (spanNorm_calls _ n1 _ hn.out (by omega)).mono ?_
    rintro e w2 ⟨v, rfl, hv, hq⟩
    rw [kg.out] at hv ⊢
    dsimp only at hv ⊢
    obtain ⟨againA, againC, rfl⟩ := hv.read.form
    (try replace hx := Lib.hid (hx.out.ext hq))
    (try replace hy := Lib.hid (hy.out.ext hq))
    (try replace hz := Lib.hid (hz.out.ext hq))
    (try replace hn := Lib.hid (hn.out.ext hq))
    (try replace ho := Lib.hid (ho.out.ext hq))
    (try replace hm := Lib.hid (hm.out.ext hq))
    (try replace hd := Lib.hid (hd.out.ext hq))
    (try replace hp := Lib.hid (hp.out.ext hq))
    (try replace hq2 := Lib.hid (hq2.out.ext hq))
    (try replace hrn := Lib.hid (hrn.out.ext hq))
    (try replace hro := Lib.hid (hro.out.ext hq))
    (try replace hrm := Lib.hid (hrm.out.ext hq))
    (try replace hrd := Lib.hid (hrd.out.ext hq))
    (try replace hwhole := Lib.hid (hwhole.out.ext hq))
    (try replace hnone := Lib.hid (hnone.out.ext hq))
    (try replace honce := Lib.hid (honce.out.ext hq))
    (try replace htwice := Lib.hid (htwice.out.ext hq))
    (try replace hs := Lib.hid (hs.out.ext hq))
    (try replace hagain := Lib.hid (hagain.out.ext hq))
    replace hE := Lib.hid (hE.out.trans hq)
    clear hq
    have hagain := Lib.hid hv.read
    clear hv
    obtain ⟨_, _, e0, hxn, hxc, hxat⟩ := hx.out.open
    cases e0
    have hxat' := Lib.hid hxat
    have hxw := hx
    clear hxat
    go_wp2_with fail
    refine wp_abs (S := fun W => Hid (Ext w2 W) ∧ Hid (W.ownsRow w2.heap.size 25 2 (.slice (some ⟨w2.heap.size, 0, none⟩) 0 0) 0 (spanCells []))) ?_ ?_
    · exact ⟨Lib.hid (by exact (by repeat' (first | (with_reducible exact Ext.refl _) | (with_reducible assumption) | (with_reducible refine Ext.drewN ?_ _) | (with_reducible refine Ext.drew ?_) | (with_reducible refine Ext.alloc ?_ _) | (with_reducible refine Ext.trans ?_ (by with_reducible assumption))))), Lib.hid (World.ownsRow_made (e := 25) (size := 2) w2 #[] 0 (Nat.le_refl _) (by unfold maxLen; omega) rfl)⟩
    rintro W3 ⟨hx3, hO3⟩
    go_loopg [13, 14] x.length (fun gm vo vi wr => ∃ (z : Int) (m : Nat) (acc : List (Int × Int)) (A : Option Addr) (C : Nat), vi = .int .i64 z ∧ vo = .slice A m C ∧ gm ≤ x.length ∧ m + 2 * gm ≤ 60 ∧ Hid (z = (gm : Int) - 1) ∧ Hid (m = acc.length) ∧ Hid (OthB x acc gm) ∧ Hid (Ext w2 wr) ∧ Hid (wr.ownsRow w2.heap.size 25 2 (.slice A m C) m (spanCells acc)))
    case atStart => exact ⟨_, 0, [], some ⟨w2.heap.size, 0, none⟩, 0, rfl, rfl, by omega, by omega, rfl, rfl, Lib.hid ⟨rfl, fun t => by rw [List.drop_length]⟩, hx3, hO3⟩
    case round =>
      clear hx3 hO3
      obtain ⟨z, m, acc, oA, oC, rfl, rfl, hgm, hmb, hz, hm, hB, hx3, hO⟩ := hrel
      rcases Nat.eq_zero_or_pos gk with hk0 | hk0
      · subst hk0
        obtain rfl : z = -1 := by have := hz.out; simpa using this
        have hacc : Hid (Spans wr (.slice oA m oC) acc) := by
          have : SpansO wr w2.heap.size (.slice oA m oC) acc := by unfold SpansO; rw [← hm.out]; exact hO.out
          exact this.read
        have ko : Hid (combT 0 acc [] = (n1, 0)) := Lib.hid (by
          rw [combT_ok hB.out.1 rfl, norm_same (m := x) (fun t => by rw [hB.out.2 t]; rfl), hn1.out])
        have hal : acc.length ≤ 100 := by rw [← hm.out]; omega
        have hq : Ext w2 wr := hx3.out
        have hacc' := hacc
        obtain ⟨nb, hnb⟩ : ∃ nb, Hid (normalB x = nb) := ⟨_, rfl⟩
        rw [hnb.out] at hvs
        clear hx3 hO hB hz hm
        (try replace hx := Lib.hid (hx.out.ext hq))
        (try replace hy := Lib.hid (hy.out.ext hq))
        (try replace hz := Lib.hid (hz.out.ext hq))
        (try replace hn := Lib.hid (hn.out.ext hq))
        (try replace ho := Lib.hid (ho.out.ext hq))
        (try replace hm := Lib.hid (hm.out.ext hq))
        (try replace hd := Lib.hid (hd.out.ext hq))
        (try replace hp := Lib.hid (hp.out.ext hq))
        (try replace hq2 := Lib.hid (hq2.out.ext hq))
        (try replace hrn := Lib.hid (hrn.out.ext hq))
        (try replace hro := Lib.hid (hro.out.ext hq))
        (try replace hrm := Lib.hid (hrm.out.ext hq))
        (try replace hrd := Lib.hid (hrd.out.ext hq))
        (try replace hwhole := Lib.hid (hwhole.out.ext hq))
        (try replace hnone := Lib.hid (hnone.out.ext hq))
        (try replace honce := Lib.hid (honce.out.ext hq))
        (try replace htwice := Lib.hid (htwice.out.ext hq))
        (try replace hs := Lib.hid (hs.out.ext hq))
        (try replace hagain := Lib.hid (hagain.out.ext hq))
        replace hE := Lib.hid (hE.out.trans hq)
        clear hq
        go_wp2_with fail
        refine (spanNorm_calls _ acc _ hacc'.out (by omega)).mono ?_
        rintro e w6 ⟨v, rfl, hv, hq⟩
        rw [ko.out] at hv ⊢
        dsimp only at hv ⊢
        obtain ⟨oA, oC, rfl⟩ := hv.read.form
        (try replace hx := Lib.hid (hx.out.ext hq))
        (try replace hy := Lib.hid (hy.out.ext hq))
        (try replace hz := Lib.hid (hz.out.ext hq))
        (try replace hn := Lib.hid (hn.out.ext hq))
        (try replace ho := Lib.hid (ho.out.ext hq))
        (try replace hm := Lib.hid (hm.out.ext hq))
        (try replace hd := Lib.hid (hd.out.ext hq))
        (try replace hp := Lib.hid (hp.out.ext hq))
        (try replace hq2 := Lib.hid (hq2.out.ext hq))
        (try replace hrn := Lib.hid (hrn.out.ext hq))
        (try replace hro := Lib.hid (hro.out.ext hq))
        (try replace hrm := Lib.hid (hrm.out.ext hq))
        (try replace hrd := Lib.hid (hrd.out.ext hq))
        (try replace hwhole := Lib.hid (hwhole.out.ext hq))
        (try replace hnone := Lib.hid (hnone.out.ext hq))
        (try replace honce := Lib.hid (honce.out.ext hq))
        (try replace htwice := Lib.hid (htwice.out.ext hq))
        (try replace hs := Lib.hid (hs.out.ext hq))
        (try replace hagain := Lib.hid (hagain.out.ext hq))
        replace hE := Lib.hid (hE.out.trans hq)
        clear hq
        have ho := Lib.hid hv.read
        clear hv
        clear hacc hacc' kg ko hn1 hxat' hxw
        go_wp2_with fail
        refine (spanValid_calls _ n1 _ hn.out).mono ?_
        rw [hnn.out]
        rintro e w7 ⟨rfl, hq⟩
        (try replace hx := Lib.hid (hx.out.ext hq))
        (try replace hy := Lib.hid (hy.out.ext hq))
        (try replace hz := Lib.hid (hz.out.ext hq))
        (try replace hn := Lib.hid (hn.out.ext hq))
        (try replace ho := Lib.hid (ho.out.ext hq))
        (try replace hm := Lib.hid (hm.out.ext hq))
        (try replace hd := Lib.hid (hd.out.ext hq))
        (try replace hp := Lib.hid (hp.out.ext hq))
        (try replace hq2 := Lib.hid (hq2.out.ext hq))
        (try replace hrn := Lib.hid (hrn.out.ext hq))
        (try replace hro := Lib.hid (hro.out.ext hq))
        (try replace hrm := Lib.hid (hrm.out.ext hq))
        (try replace hrd := Lib.hid (hrd.out.ext hq))
        (try replace hwhole := Lib.hid (hwhole.out.ext hq))
        (try replace hnone := Lib.hid (hnone.out.ext hq))
        (try replace honce := Lib.hid (honce.out.ext hq))
        (try replace htwice := Lib.hid (htwice.out.ext hq))
        (try replace hs := Lib.hid (hs.out.ext hq))
        (try replace hagain := Lib.hid (hagain.out.ext hq))
        replace hE := Lib.hid (hE.out.trans hq)
        clear hq
        go_wp2_with fail
        refine (rSameS_calls _ _ n1 n1 _ hn.out hagain.out).mono ?_
        rw [sameB_self]
        rintro e w8 ⟨rfl, hq⟩
        (try replace hx := Lib.hid (hx.out.ext hq))
        (try replace hy := Lib.hid (hy.out.ext hq))
        (try replace hz := Lib.hid (hz.out.ext hq))
        (try replace hn := Lib.hid (hn.out.ext hq))
        (try replace ho := Lib.hid (ho.out.ext hq))
        (try replace hm := Lib.hid (hm.out.ext hq))
        (try replace hd := Lib.hid (hd.out.ext hq))
        (try replace hp := Lib.hid (hp.out.ext hq))
        (try replace hq2 := Lib.hid (hq2.out.ext hq))
        (try replace hrn := Lib.hid (hrn.out.ext hq))
        (try replace hro := Lib.hid (hro.out.ext hq))
        (try replace hrm := Lib.hid (hrm.out.ext hq))
        (try replace hrd := Lib.hid (hrd.out.ext hq))
        (try replace hwhole := Lib.hid (hwhole.out.ext hq))
        (try replace hnone := Lib.hid (hnone.out.ext hq))
        (try replace honce := Lib.hid (honce.out.ext hq))
        (try replace htwice := Lib.hid (htwice.out.ext hq))
        (try replace hs := Lib.hid (hs.out.ext hq))
        (try replace hagain := Lib.hid (hagain.out.ext hq))
        replace hE := Lib.hid (hE.out.trans hq)
        clear hq
        go_wp2_with fail
        refine (rSameS_calls _ _ n1 n1 _ hn.out ho.out).mono ?_
        rw [sameB_self]
        rintro e w9 ⟨rfl, hq⟩
        (try replace hx := Lib.hid (hx.out.ext hq))
        (try replace hy := Lib.hid (hy.out.ext hq))
        (try replace hz := Lib.hid (hz.out.ext hq))
        (try replace hn := Lib.hid (hn.out.ext hq))
        (try replace ho := Lib.hid (ho.out.ext hq))
        (try replace hm := Lib.hid (hm.out.ext hq))
        (try replace hd := Lib.hid (hd.out.ext hq))
        (try replace hp := Lib.hid (hp.out.ext hq))
        (try replace hq2 := Lib.hid (hq2.out.ext hq))
        (try replace hrn := Lib.hid (hrn.out.ext hq))
        (try replace hro := Lib.hid (hro.out.ext hq))
        (try replace hrm := Lib.hid (hrm.out.ext hq))
        (try replace hrd := Lib.hid (hrd.out.ext hq))
        (try replace hwhole := Lib.hid (hwhole.out.ext hq))
        (try replace hnone := Lib.hid (hnone.out.ext hq))
        (try replace honce := Lib.hid (honce.out.ext hq))
        (try replace htwice := Lib.hid (htwice.out.ext hq))
        (try replace hs := Lib.hid (hs.out.ext hq))
        (try replace hagain := Lib.hid (hagain.out.ext hq))
        replace hE := Lib.hid (hE.out.trans hq)
        clear hq
        have e2 : (nb == nb) = true := beq_self_eq_true nb
        go_wp2_with fail
        refine (spanValid_calls _ x _ hx.out).mono ?_
        rw [hnb.out]
        rintro e w10 ⟨rfl, hq⟩
        (try replace hx := Lib.hid (hx.out.ext hq))
        (try replace hy := Lib.hid (hy.out.ext hq))
        (try replace hz := Lib.hid (hz.out.ext hq))
        (try replace hn := Lib.hid (hn.out.ext hq))
        (try replace ho := Lib.hid (ho.out.ext hq))
        (try replace hm := Lib.hid (hm.out.ext hq))
        (try replace hd := Lib.hid (hd.out.ext hq))
        (try replace hp := Lib.hid (hp.out.ext hq))
        (try replace hq2 := Lib.hid (hq2.out.ext hq))
        (try replace hrn := Lib.hid (hrn.out.ext hq))
        (try replace hro := Lib.hid (hro.out.ext hq))
        (try replace hrm := Lib.hid (hrm.out.ext hq))
        (try replace hrd := Lib.hid (hrd.out.ext hq))
        (try replace hwhole := Lib.hid (hwhole.out.ext hq))
        (try replace hnone := Lib.hid (hnone.out.ext hq))
        (try replace honce := Lib.hid (honce.out.ext hq))
        (try replace htwice := Lib.hid (htwice.out.ext hq))
        (try replace hs := Lib.hid (hs.out.ext hq))
        (try replace hagain := Lib.hid (hagain.out.ext hq))
        replace hE := Lib.hid (hE.out.trans hq)
        clear hq
        go_wp2_with fail
        refine (rSameS_calls _ _ x n1 _ hx.out hn.out).mono ?_
        rw [hvs.out]
        rintro e w11 ⟨rfl, hq⟩
        (try replace hx := Lib.hid (hx.out.ext hq))
        (try replace hy := Lib.hid (hy.out.ext hq))
        (try replace hz := Lib.hid (hz.out.ext hq))
        (try replace hn := Lib.hid (hn.out.ext hq))
        (try replace ho := Lib.hid (ho.out.ext hq))
        (try replace hm := Lib.hid (hm.out.ext hq))
        (try replace hd := Lib.hid (hd.out.ext hq))
        (try replace hp := Lib.hid (hp.out.ext hq))
        (try replace hq2 := Lib.hid (hq2.out.ext hq))
        (try replace hrn := Lib.hid (hrn.out.ext hq))
        (try replace hro := Lib.hid (hro.out.ext hq))
        (try replace hrm := Lib.hid (hrm.out.ext hq))
        (try replace hrd := Lib.hid (hrd.out.ext hq))
        (try replace hwhole := Lib.hid (hwhole.out.ext hq))
        (try replace hnone := Lib.hid (hnone.out.ext hq))
        (try replace honce := Lib.hid (honce.out.ext hq))
        (try replace htwice := Lib.hid (htwice.out.ext hq))
        (try replace hs := Lib.hid (hs.out.ext hq))
        (try replace hagain := Lib.hid (hagain.out.ext hq))
        replace hE := Lib.hid (hE.out.trans hq)
        clear hq
        go_wp2
        go_ret
        exact ⟨rfl, hE.out⟩
      · obtain ⟨k, rfl⟩ : ∃ k, gk = k + 1 := ⟨gk - 1, by omega⟩
        obtain rfl : z = (k : Int) := by have := hz.out; omega
        obtain ⟨b1, o1, u, v, rfl, hb1, _, ex, g1, g2⟩ := hxat'.out k (by omega) wr hx3.out
        have hff := ranged_far hrx'.out (List.mem_of_getElem? ex.out)
        have hsz := hx3.out.size
        have lx0 : (x.length : Int) ≠ 0 := by omega
        clear hz
        by_cases q1 : (k : Int) = at_ % (x.length : Int)
        · have e1 : ((k : Int) == at_ % (x.length : Int)) = true := by rw [beq_iff_eq]; exact q1
          by_cases q2 : u < c
          · have e2 : decide (u < c) = true := decide_eq_true q2
            by_cases q3 : c < v
            · have e3 : decide (c < v) = true := decide_eq_true q3
              have hcf := far_mid hff.1 hff.2 q2 q3
              have hB5 : Hid (OthB x (acc ++ [(c, v), (u, c)]) k) := Lib.hid (hB.out.step ex.out (ranged_two ⟨hcf, hff.2⟩ ⟨hff.1, hcf⟩) (fun t => by
                rw [Bool.eq_iff_iff, hasB_iff, hasB_iff]
                simp
                omega))
              clear hB ex hff hcf q1
              go_wp2_with (at_builtin; refine wpList_append_any _ rfl (.tmp 74) (.tmp 83) _ rfl w2.heap.size 25 j0 _ 2 16 Try.underlying22 hj0 jz0 jz1 jz2 rfl (by decide) (.slice oA m oC) m (spanCells acc) rfl ((hO.out.alloc _).alloc _) (wr.heap.size + 2) (some ⟨wr.heap.size + 1, 0, none⟩) 2 2 [.int .i64 c, .int .i64 v, .int .i64 u, .int .i64 c] rfl (reads_last _ #[_, _, _, _] _ 2 2 _ _ (by simp only [World.size_alloc]) (by omega) rfl) (by simp [Value.oneCell']) (by unfold maxLen; omega) (by omega) (by rw [World.size_alloc, World.size_alloc]; omega) ?_; intro v5 w5 hown5 hg5 hat5; obtain ⟨A5, C5, rfl⟩ := owns_form hown5)
              have hO5 : Hid (w5.ownsRow w2.heap.size 25 2 (.slice A5 (m + 2) C5) (m + 2) (spanCells (acc ++ [(c, v), (u, c)]))) := Lib.hid (by rw [spanCells_app]; exact hown5)
              have hx5 := Lib.hid (((hx3.out.alloc (.cells #[.int .i64 u, .int .i64 v] 25)).alloc (.cells #[.int .i64 c, .int .i64 v, .int .i64 u, .int .i64 c] 25)).grown hg5 (fun k e => (hO.out.lt k e).1))
              have hm5 : Hid (m + 2 = (acc ++ [(c, v), (u, c)]).length) := by show _ = _; rw [List.length_append, ← hm.out]; rfl
              clear hown5 hg5 hat5 hO hx3
              go_wp2
              go_roundg k
              · exact ⟨_, m + 2, _, A5, C5, rfl, rfl, by omega, by omega, rfl, hm5, hB5, hx5, hO5⟩
              · omega
            · have e3 : decide (c < v) = false := decide_eq_false q3
              have hB5 : Hid (OthB x (acc ++ [(u, v), (u, v)]) k) := Lib.hid (hB.out.step ex.out (ranged_two hff hff) (fun t => by rw [hasB_cons, hasB_cons, hasB_nil]; simp))
              clear hB ex hff q1
              go_wp2_with (at_builtin; refine wpList_append_any _ rfl (.tmp 85) (.tmp 88) _ rfl w2.heap.size 25 j0 _ 2 16 Try.underlying22 hj0 jz0 jz1 jz2 rfl (by decide) (.slice oA m oC) m (spanCells acc) rfl ((hO.out.alloc _).alloc _) (wr.heap.size + 2) (some ⟨wr.heap.size + 1, 0, none⟩) 2 2 [.int .i64 u, .int .i64 v, .int .i64 u, .int .i64 v] rfl (reads_last _ #[_, _, _, _] _ 2 2 _ _ (by simp only [World.size_alloc]) (by omega) rfl) (by simp [Value.oneCell']) (by unfold maxLen; omega) (by omega) (by rw [World.size_alloc, World.size_alloc]; omega) ?_; intro v5 w5 hown5 hg5 hat5; obtain ⟨A5, C5, rfl⟩ := owns_form hown5)
              have hO5 : Hid (w5.ownsRow w2.heap.size 25 2 (.slice A5 (m + 2) C5) (m + 2) (spanCells (acc ++ [(u, v), (u, v)]))) := Lib.hid (by rw [spanCells_app]; exact hown5)
              have hx5 := Lib.hid (((hx3.out.alloc (.cells #[.int .i64 u, .int .i64 v] 25)).alloc (.cells #[.int .i64 u, .int .i64 v, .int .i64 u, .int .i64 v] 25)).grown hg5 (fun k e => (hO.out.lt k e).1))
              have hm5 : Hid (m + 2 = (acc ++ [(u, v), (u, v)]).length) := by show _ = _; rw [List.length_append, ← hm.out]; rfl
              clear hown5 hg5 hat5 hO hx3
              go_wp2
              go_roundg k
              · exact ⟨_, m + 2, _, A5, C5, rfl, rfl, by omega, by omega, rfl, hm5, hB5, hx5, hO5⟩
              · omega
          · have e2 : decide (u < c) = false := decide_eq_false q2
            have hB5 : Hid (OthB x (acc ++ [(u, v), (u, v)]) k) := Lib.hid (hB.out.step ex.out (ranged_two hff hff) (fun t => by rw [hasB_cons, hasB_cons, hasB_nil]; simp))
            clear hB ex hff q1
            go_wp2_with (at_builtin; refine wpList_append_any _ rfl (.tmp 85) (.tmp 88) _ rfl w2.heap.size 25 j0 _ 2 16 Try.underlying22 hj0 jz0 jz1 jz2 rfl (by decide) (.slice oA m oC) m (spanCells acc) rfl ((hO.out.alloc _).alloc _) (wr.heap.size + 2) (some ⟨wr.heap.size + 1, 0, none⟩) 2 2 [.int .i64 u, .int .i64 v, .int .i64 u, .int .i64 v] rfl (reads_last _ #[_, _, _, _] _ 2 2 _ _ (by simp only [World.size_alloc]) (by omega) rfl) (by simp [Value.oneCell']) (by unfold maxLen; omega) (by omega) (by rw [World.size_alloc, World.size_alloc]; omega) ?_; intro v5 w5 hown5 hg5 hat5; obtain ⟨A5, C5, rfl⟩ := owns_form hown5)
            have hO5 : Hid (w5.ownsRow w2.heap.size 25 2 (.slice A5 (m + 2) C5) (m + 2) (spanCells (acc ++ [(u, v), (u, v)]))) := Lib.hid (by rw [spanCells_app]; exact hown5)
            have hx5 := Lib.hid (((hx3.out.alloc (.cells #[.int .i64 u, .int .i64 v] 25)).alloc (.cells #[.int .i64 u, .int .i64 v, .int .i64 u, .int .i64 v] 25)).grown hg5 (fun k e => (hO.out.lt k e).1))
            have hm5 : Hid (m + 2 = (acc ++ [(u, v), (u, v)]).length) := by show _ = _; rw [List.length_append, ← hm.out]; rfl
            clear hown5 hg5 hat5 hO hx3
            go_wp2
            go_roundg k
            · exact ⟨_, m + 2, _, A5, C5, rfl, rfl, by omega, by omega, rfl, hm5, hB5, hx5, hO5⟩
            · omega
        · have e1 : ((k : Int) == at_ % (x.length : Int)) = false := by rw [beq_eq_false_iff_ne]; exact q1
          have hB5 : Hid (OthB x (acc ++ [(u, v), (u, v)]) k) := Lib.hid (hB.out.step ex.out (ranged_two hff hff) (fun t => by rw [hasB_cons, hasB_cons, hasB_nil]; simp))
          clear hB ex hff q1
          go_wp2_with (at_builtin; refine wpList_append_any _ rfl (.tmp 85) (.tmp 88) _ rfl w2.heap.size 25 j0 _ 2 16 Try.underlying22 hj0 jz0 jz1 jz2 rfl (by decide) (.slice oA m oC) m (spanCells acc) rfl ((hO.out.alloc _).alloc _) (wr.heap.size + 2) (some ⟨wr.heap.size + 1, 0, none⟩) 2 2 [.int .i64 u, .int .i64 v, .int .i64 u, .int .i64 v] rfl (reads_last _ #[_, _, _, _] _ 2 2 _ _ (by simp only [World.size_alloc]) (by omega) rfl) (by simp [Value.oneCell']) (by unfold maxLen; omega) (by omega) (by rw [World.size_alloc, World.size_alloc]; omega) ?_; intro v5 w5 hown5 hg5 hat5; obtain ⟨A5, C5, rfl⟩ := owns_form hown5)
          have hO5 : Hid (w5.ownsRow w2.heap.size 25 2 (.slice A5 (m + 2) C5) (m + 2) (spanCells (acc ++ [(u, v), (u, v)]))) := Lib.hid (by rw [spanCells_app]; exact hown5)
          have hx5 := Lib.hid (((hx3.out.alloc (.cells #[.int .i64 u, .int .i64 v] 25)).alloc (.cells #[.int .i64 u, .int .i64 v, .int .i64 u, .int .i64 v] 25)).grown hg5 (fun k e => (hO.out.lt k e).1))
          have hm5 : Hid (m + 2 = (acc ++ [(u, v), (u, v)]).length) := by show _ = _; rw [List.length_append, ← hm.out]; rfl
          clear hown5 hg5 hat5 hO hx3
          go_wp2
          go_roundg k
          · exact ⟨_, m + 2, _, A5, C5, rfl, rfl, by omega, by omega, rfl, hm5, hB5, hx5, hO5⟩
          · omega
end Go.Proofs.Ytfajejelelbmmaa
