/- The law's fixed examples of package span: they come out true. -/
import Derived.Test.YtfajejelelbmmaaYJ
namespace Go.Proofs.Ytfajejelelbmmaa
open Go.RowKit

theorem gap_unique {N : List (Int × Int)} {n wf wt : Int} {ok ok' : Bool} {x y x' y' : Int} (h : GapIs N n wf wt ok x y) (h' : GapIs N n wf wt ok' x' y') : ok = ok' ∧ x = x' ∧ y = y' := by
  cases ok with
  | true =>
    obtain ⟨a1, a2, a3, a4⟩ := h.yes rfl
    cases ok' with
    | true =>
      obtain ⟨b1, b2, b3, b4⟩ := h'.yes rfl
      have e : x = x' := by
        rcases Int.lt_trichotomy x x' with hl | he | hg
        · exact absurd (h'.before x a1 (by omega) (fun _ => hl)) a4
        · exact he
        · exact absurd (h.before x' b1 (by omega) (fun _ => hg)) b4
      subst e
      exact ⟨rfl, rfl, by omega⟩
    | false => exact absurd (h'.before x a1 (by omega) (fun h => by cases h)) a4
  | false =>
    cases ok' with
    | true =>
      obtain ⟨b1, b2, b3, b4⟩ := h'.yes rfl
      exact absurd (h.before x' b1 (by omega) (fun h => by cases h)) b4
    | false =>
      obtain ⟨a1, a2⟩ := h.no rfl
      obtain ⟨b1, b2⟩ := h'.no rfl
      exact ⟨rfl, by omega, by omega⟩
theorem gapOut_unique {l : List (Int × Int)} {n wf wt : Int} {ok ok' : Bool} {x y x' y' : Int} (h : GapOut l n wf wt ok x y) (h' : GapOut l n wf wt ok' x' y') : ok = ok' ∧ x = x' ∧ y = y' := by
  rcases h with ⟨h1, rfl, rfl, rfl⟩ | ⟨h1, h2⟩
  · rcases h' with ⟨h3, rfl, rfl, rfl⟩ | ⟨h3, _⟩
    · exact ⟨rfl, rfl, rfl⟩
    · rw [h1] at h3; cases h3
  · rcases h' with ⟨h3, _⟩ | ⟨_, h4⟩
    · rw [h1] at h3; cases h3
    · exact gap_unique h2 h4
theorem san_gap : GapOut [(2, 4), (6, 8)] 3 0 20 true 8 11 := by
  refine Or.inr ⟨by decide, ?_⟩
  have e : combL 0 [(2, 4), (6, 8)] [] = [(2, 4), (6, 8)] := by decide
  rw [e]
  refine ⟨fun _ => ⟨by decide, by decide, by decide, ?_⟩, (fun h => by cases h), fun t h1 h2 h3 => ?_⟩
  · rintro ⟨s, hs, h1, h2⟩
    simp at hs
    rcases hs with rfl | rfl <;> simp at h1 h2
  · have := h3 rfl
    by_cases ht : t < 4
    · exact ⟨(2, 4), by simp, by dsimp only; omega, by dsimp only; omega⟩
    · exact ⟨(6, 8), by simp, by dsimp only; omega, by dsimp only; omega⟩
theorem san_norm : combT 0 [(5, 9), (1, 3), (3, 4), (7, 7), (8, 12)] [] = ([(1, 4), (5, 12)], 0) := by decide
theorem san_total : totalT [(1, 4), (5, 12)] = (10, 0) := by decide
theorem san_grow : growT [(5, 7), (10, 11)] 1 2 = ([(4, 13)], 0) := by decide
theorem lit_spans (w : World) (l : List (Int × Int)) (hl : l.length ≤ 1000) : Spans (w.alloc (.cells (spanCells l).toArray 25)) (.slice (some ⟨w.heap.size, 0, none⟩) l.length l.length) l :=
  spans_of_blk (Blk.new w 25 (spanCells l).toArray) (Nat.le_refl _) (by unfold maxLen; omega)
set_option maxHeartbeats 3200000 in
set_option maxRecDepth 100000 in
theorem sanity12_calls (w : World) : Calls Try.prog 14 #[] w fun e w' => e = .returned (.bool true) ∧ Ext w w' := by
  go_enter Try.func14, Try.ntmps14
  go_wp2_with fail
  refine (spanNorm_calls _ [(5, 9), (1, 3), (3, 4), (7, 7), (8, 12)] _ (lit_spans w [(5, 9), (1, 3), (3, 4), (7, 7), (8, 12)] (by decide)) (by decide)).mono ?_
  rintro e w1 ⟨v1, rfl, hv1, hx1⟩
  rw [san_norm] at hv1 ⊢
  dsimp only at hv1 ⊢
  have hS1 := Lib.hid hv1.read
  obtain ⟨A1, C1, rfl⟩ := hv1.read.form
  rw [show ([(1, 4), (5, 12)] : List (Int × Int)).length = 2 from rfl] at hS1 ⊢
  have hE1 := Lib.hid (Ext.trans (by exact (by repeat' (first | (with_reducible exact Ext.refl _) | (with_reducible assumption) | (with_reducible refine Ext.drewN ?_ _) | (with_reducible refine Ext.drew ?_) | (with_reducible refine Ext.alloc ?_ _) | (with_reducible refine Ext.trans ?_ (by with_reducible assumption)))) : Ext w _) hx1)
  clear hv1 hx1
  go_wp2_with fail
  refine (spanTotal_calls _ _ w1 hS1.out).mono ?_
  rw [san_total]
  rintro e w2 ⟨rfl, hx2⟩
  have hE2 := Lib.hid (hE1.out.trans hx2)
  have hS2 := Lib.hid (hS1.out.ext hx2)
  clear hx2 hE1 hS1
  go_wp2_with fail
  refine (spanGap_calls _ [(2, 4), (6, 8)] 3 0 20 _ (lit_spans w2 [(2, 4), (6, 8)] (by decide)) (by decide)).mono ?_
  rintro e w3 ⟨ok, x, y, rfl, hg, hx3⟩
  obtain ⟨rfl, rfl, rfl⟩ := gapOut_unique hg san_gap
  have hE3 := Lib.hid (hE2.out.trans (Ext.trans (by exact (by repeat' (first | (with_reducible exact Ext.refl _) | (with_reducible assumption) | (with_reducible refine Ext.drewN ?_ _) | (with_reducible refine Ext.drew ?_) | (with_reducible refine Ext.alloc ?_ _) | (with_reducible refine Ext.trans ?_ (by with_reducible assumption)))) : Ext w2 _) hx3))
  have hS3 := Lib.hid (hS2.out.ext (Ext.trans (by exact (by repeat' (first | (with_reducible exact Ext.refl _) | (with_reducible assumption) | (with_reducible refine Ext.drewN ?_ _) | (with_reducible refine Ext.drew ?_) | (with_reducible refine Ext.alloc ?_ _) | (with_reducible refine Ext.trans ?_ (by with_reducible assumption)))) : Ext w2 _) hx3))
  clear hx3 hE2 hS2 hg
  go_upto_region 4 with (fail)
  refine wp_abs (S := fun W => Hid (Ext w3 W) ∧ Hid (Blk W w3.heap.size 25 #[.int .i64 8, .int .i64 11])) ?_ ?_
  · exact ⟨Lib.hid (by exact (by repeat' (first | (with_reducible exact Ext.refl _) | (with_reducible assumption) | (with_reducible refine Ext.drewN ?_ _) | (with_reducible refine Ext.drew ?_) | (with_reducible refine Ext.alloc ?_ _) | (with_reducible refine Ext.trans ?_ (by with_reducible assumption))))), Lib.hid (blk_new' rfl rfl)⟩
  rintro W4 ⟨hE4, hB4⟩
  go_wp2_with fail
  refine (spanGrow_calls _ [(5, 7), (10, 11)] 1 2 _ (lit_spans W4 [(5, 7), (10, 11)] (by decide)) (by decide)).mono ?_
  rintro e w5 ⟨v5, rfl, hv5, hx5⟩
  rw [san_grow] at hv5 ⊢
  dsimp only at hv5 ⊢
  have hx45 := Ext.trans (by exact (by repeat' (first | (with_reducible exact Ext.refl _) | (with_reducible assumption) | (with_reducible refine Ext.drewN ?_ _) | (with_reducible refine Ext.drew ?_) | (with_reducible refine Ext.alloc ?_ _) | (with_reducible refine Ext.trans ?_ (by with_reducible assumption)))) : Ext W4 _) hx5
  have hG5 := Lib.hid hv5.read
  obtain ⟨A5, C5, rfl⟩ := hv5.read.form
  rw [show ([(4, 13)] : List (Int × Int)).length = 1 from rfl] at hG5 ⊢
  have hE5 := Lib.hid (hE3.out.trans (hE4.out.trans hx45))
  have hS5 := Lib.hid (hS3.out.ext (hE4.out.trans hx45))
  have hB5 := Lib.hid (hB4.out.below hx45 hB4.out.lt)
  clear hv5 hx5 hx45 hE3 hS3 hE4 hB4
  go_wp2_with fail
  refine (rSameS_calls _ _ [(1, 4), (5, 12)] [(1, 4), (5, 12)] _ (hS5.out.ext (by exact (by repeat' (first | (with_reducible exact Ext.refl _) | (with_reducible assumption) | (with_reducible refine Ext.drewN ?_ _) | (with_reducible refine Ext.drew ?_) | (with_reducible refine Ext.alloc ?_ _) | (with_reducible refine Ext.trans ?_ (by with_reducible assumption)))))) (lit_spans w5 [(1, 4), (5, 12)] (by decide))).mono ?_
  rw [sameB_self]
  rintro e w6 ⟨rfl, hx6⟩
  have hx56 := Ext.trans (by exact (by repeat' (first | (with_reducible exact Ext.refl _) | (with_reducible assumption) | (with_reducible refine Ext.drewN ?_ _) | (with_reducible refine Ext.drew ?_) | (with_reducible refine Ext.alloc ?_ _) | (with_reducible refine Ext.trans ?_ (by with_reducible assumption)))) : Ext w5 _) hx6
  have c0 : w6.cell? ⟨w3.heap.size, 0, none⟩ = some (.int .i64 8) := hx56.cell (hB5.out.cell 0)
  have c1 : w6.cell? ⟨w3.heap.size, 1, none⟩ = some (.int .i64 11) := hx56.cell (hB5.out.cell 1)
  have heq := span_eql 8 11 8 11
  have hgd := fun op p q => span_guard op p q 8 11 8 11
  rw [show (decide ((8 : Int) = 8) && decide ((11 : Int) = 11)) = true by decide] at heq
  have hE6 := Lib.hid (hE5.out.trans hx56)
  have hG6 := Lib.hid (hG5.out.ext hx56)
  clear hx6 hx56 hE5 hG5 hB5
  go_wp2_with fail
  refine (rSameS_calls _ _ [(4, 13)] [(4, 13)] _ (hG6.out.ext (by exact (by repeat' (first | (with_reducible exact Ext.refl _) | (with_reducible assumption) | (with_reducible refine Ext.drewN ?_ _) | (with_reducible refine Ext.drew ?_) | (with_reducible refine Ext.alloc ?_ _) | (with_reducible refine Ext.trans ?_ (by with_reducible assumption)))))) (lit_spans w6 [(4, 13)] (by decide))).mono ?_
  rw [sameB_self]
  rintro e w7 ⟨rfl, hx7⟩
  have hE7 := Lib.hid (hE6.out.trans (Ext.trans (by exact (by repeat' (first | (with_reducible exact Ext.refl _) | (with_reducible assumption) | (with_reducible refine Ext.drewN ?_ _) | (with_reducible refine Ext.drew ?_) | (with_reducible refine Ext.alloc ?_ _) | (with_reducible refine Ext.trans ?_ (by with_reducible assumption)))) : Ext w6 _) hx7))
  clear hx7
  go_wp2
  go_ret
  exact ⟨rfl, hE7.out⟩
end Go.Proofs.Ytfajejelelbmmaa
