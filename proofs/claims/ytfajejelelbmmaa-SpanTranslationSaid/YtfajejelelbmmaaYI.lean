/- Walks of package span: Gap. -/
import Derived.Test.YtfajejelelbmmaaYH
import Derived.Laws.ResultCell
import Derived.Deep.LoopGhost
namespace Go.Proofs.Ytfajejelelbmmaa
open Go.RowKit

/-- the span [t, t + n) meets a span of the list -/
def MeetsAt (N : List (Int × Int)) (n t : Int) : Prop := ∃ s ∈ N, s.1 < t + n ∧ t < s.2
/-- what Gap finds in a normal list -/
structure GapIs (N : List (Int × Int)) (n wf wt : Int) (ok : Bool) (x y : Int) : Prop where
  yes : ok = true → wf ≤ x ∧ y = x + n ∧ y ≤ wt ∧ ¬ MeetsAt N n x
  no : ok = false → x = 0 ∧ y = 0
  before : ∀ t, wf ≤ t → t + n ≤ wt → (ok = true → t < x) → MeetsAt N n t
/-- what Gap refuses -/
def gapBad (l : List (Int × Int)) (n wf wt : Int) : Bool := !rangedB l || decide (n < 1) || farB wf || farB wt
def GapOut (l : List (Int × Int)) (n wf wt : Int) (ok : Bool) (x y : Int) : Prop := (gapBad l n wf wt = true ∧ ok = false ∧ x = 0 ∧ y = 0) ∨ (gapBad l n wf wt = false ∧ GapIs (combL 0 l []) n wf wt ok x y)
theorem gap_results {tmps : Array Value} {w : World} {g : Nat} {x y : Int} (hp : tmps.getD 6 undef = .pointer (some ⟨g, 0, none⟩)) (hb : Blk w g 25 #[.int .i64 x, .int .i64 y]) :
    (results Try.f18 tmps).run Try.prog w = .ok (.tuple #[.agg #[.int .i64 x, .int .i64 y], tmps.getD 7 undef]) w := by
  have hp' : tmps[6]?.getD undef = .pointer (some ⟨g, 0, none⟩) := by simpa using hp
  rw [results_cell_tmp Try.results18]
  simp [hp', asAddr, run_loadVar_row w g 25 25 #[.int .i64 x, .int .i64 y] (0, 0) _ hb Try.underlying25 rfl (by kernel_rfl), Result.andThen]
set_option maxHeartbeats 6400000 in
set_option maxRecDepth 100000 in
theorem spanGap_calls (va : Value) (l : List (Int × Int)) (n wf wt : Int) (w : World) (h : Spans w va l) (hl : l.length ≤ 100000) :
    Calls Try.prog 18 #[va, .int .i64 n, .agg #[.int .i64 wf, .int .i64 wt]] w fun e w' => ∃ ok x y, e = .returned (.tuple #[.agg #[.int .i64 x, .int .i64 y], .bool ok]) ∧ GapOut l n wf wt ok x y ∧ Ext w w' := by
  have h' := Lib.hid h
  obtain ⟨la, lc, rfl⟩ := h.form
  clear h
  go_enter Try.func18, Try.ntmps18
  go_upto_region 1 with (fail)
  refine wp_abs (S := fun W => Hid (Ext w W) ∧ Hid (Blk W w.heap.size 25 #[.int .i64 wf, .int .i64 wt]) ∧ Hid (Blk W (w.heap.size + 1) 25 #[.int .i64 0, .int .i64 0])) ?_ ?_
  · exact ⟨Lib.hid (by exact (by repeat' (first | (with_reducible exact Ext.refl _) | (with_reducible assumption) | (with_reducible refine Ext.drewN ?_ _) | (with_reducible refine Ext.drew ?_) | (with_reducible refine Ext.alloc ?_ _) | (with_reducible refine Ext.trans ?_ (by with_reducible assumption))))), Lib.hid ((blk_new' rfl rfl).alloc _), Lib.hid (blk_new' (by simp only [World.size_alloc]) rfl)⟩
  rintro W0 ⟨hE0, hB0, hR0⟩
  go_step3
  go_wp2_with fail
  refine (spanNorm_calls _ l W0 (h'.out.ext hE0.out) hl).mono ?_
  rintro e w1 ⟨v, rfl, hv, hx1⟩
  obtain ⟨r, hr⟩ : ∃ r, Hid (combT 0 l [] = r) := ⟨_, rfl⟩
  obtain ⟨N, er⟩ := r
  rw [hr.out] at hv ⊢
  dsimp only at hv ⊢
  have hN := Lib.hid hv.read
  obtain ⟨Na, Nc, rfl⟩ := hv.read.form
  have hE1 := Lib.hid (hE0.out.trans hx1)
  have hB1 := Lib.hid (hB0.out.below hx1 hB0.out.lt)
  have hR1 := Lib.hid (hR0.out.below hx1 hR0.out.lt)
  have c0 : w1.cell? ⟨w.heap.size, 0, none⟩ = some (.int .i64 wf) := hB1.out.cell 0
  have c1 : w1.cell? ⟨w.heap.size, 1, none⟩ = some (.int .i64 wt) := hB1.out.cell 1
  have k0 : w1.cell? ⟨w.heap.size + 1, 0, none⟩ = some (.int .i64 0) := hR1.out.cell 0
  have k1 : w1.cell? ⟨w.heap.size + 1, 1, none⟩ = some (.int .i64 0) := hR1.out.cell 1
  have m0 := hR1.out.frozen 0
  have m1 := hR1.out.frozen 1
  clear hv hx1 hE0 hB0 hR0
  cases hra : rangedB l with
  | false =>
    have R : Hid (gapBad l n wf wt = true) := by show _ = _; simp [gapBad, hra]
    obtain ⟨rfl, rfl⟩ : N = [] ∧ er = 1 := by have := hr.out; rw [combT_no (by rw [hra]; rfl)] at this; cases this; exact ⟨rfl, rfl⟩
    clear hra hr
    go_wp2
    (try simp only [Exit.inBlock, Exit.then])
    (try rw [Exit.noGoto_ret])
    refine bodyPost_ret (gap_results (x := 0) (y := 0) rfl (((hR1.out.set_ 0 _).set_ 1 _))) rfl ?_
    exact ⟨false, 0, 0, rfl, Or.inl ⟨R.out, rfl, rfl, rfl⟩, ((hE1.out.setCell (p := ⟨w.heap.size + 1, 0, none⟩) (Nat.le_succ _) _).setCell (p := ⟨w.heap.size + 1, 1, none⟩) (Nat.le_succ _) _)⟩
  | true =>
    obtain ⟨rfl, rfl⟩ : N = combL 0 l [] ∧ er = 0 := by have := hr.out; rw [combT_ok hra rfl] at this; cases this; exact ⟨rfl, rfl⟩
    have hch : Hid (chainB none (combL 0 l []) = true) := Lib.hid (comb_chain _ _ _)
    have hrg : Hid (rangedB (combL 0 l []) = true) := Lib.hid (comb_ranged hra rfl)
    obtain ⟨N, hNe⟩ : ∃ N, Hid (combL 0 l [] = N) := ⟨_, rfl⟩
    rw [hNe.out] at hN hch hrg ⊢
    clear hr
    by_cases n1 : n < 1
    · have R : Hid (gapBad l n wf wt = true) := by show _ = _; simp [gapBad, n1]
      have dn : decide (n < 1) = true := decide_eq_true n1
      clear hra hN
      go_wp2
      (try simp only [Exit.inBlock, Exit.then])
      (try rw [Exit.noGoto_ret])
      refine bodyPost_ret (gap_results (x := 0) (y := 0) rfl (((hR1.out.set_ 0 _).set_ 1 _))) rfl ?_
      exact ⟨false, 0, 0, rfl, Or.inl ⟨R.out, rfl, rfl, rfl⟩, ((hE1.out.setCell (p := ⟨w.heap.size + 1, 0, none⟩) (Nat.le_succ _) _).setCell (p := ⟨w.heap.size + 1, 1, none⟩) (Nat.le_succ _) _)⟩
    · have dn : decide (n < 1) = false := decide_eq_false n1
      have hf1 : Hid (∀ W, Calls Try.prog 36 #[.int .i64 wf] W fun e w' => e = .returned (.bool (farB wf)) ∧ Ext W w') := Lib.hid (far_calls wf)
      have hf2 : Hid (∀ W, Calls Try.prog 36 #[.int .i64 wt] W fun e w' => e = .returned (.bool (farB wt)) ∧ Ext W w') := Lib.hid (far_calls wt)
      cases hfa : farB wf with
      | true =>
        have R : Hid (gapBad l n wf wt = true) := by show _ = _; simp [gapBad, hfa]
        rw [hfa] at hf1
        clear hra hN hfa
        go_wp2_with fail
        refine (hf1.out _).mono ?_
        rintro e w2 ⟨rfl, hx2⟩
        have hE2 := Lib.hid (hE1.out.trans hx2)
        have hR2 := Lib.hid (hR1.out.below hx2 hR1.out.lt)
        replace k0 := hx2.cell k0
        replace k1 := hx2.cell k1
        replace m0 := hR2.out.frozen 0
        replace m1 := hR2.out.frozen 1
        clear hx2 hf1 hf2
        go_wp2
        (try simp only [Exit.inBlock, Exit.then])
        (try rw [Exit.noGoto_ret])
        refine bodyPost_ret (gap_results (x := 0) (y := 0) rfl (((hR2.out.set_ 0 _).set_ 1 _))) rfl ?_
        exact ⟨false, 0, 0, rfl, Or.inl ⟨R.out, rfl, rfl, rfl⟩, ((hE2.out.setCell (p := ⟨w.heap.size + 1, 0, none⟩) (Nat.le_succ _) _).setCell (p := ⟨w.heap.size + 1, 1, none⟩) (Nat.le_succ _) _)⟩
      | false =>
        rw [hfa] at hf1
        go_wp2_with fail
        refine (hf1.out _).mono ?_
        rintro e w2 ⟨rfl, hx2⟩
        replace c1 := hx2.cell c1
        cases hfb : farB wt with
        | true =>
          have R : Hid (gapBad l n wf wt = true) := by show _ = _; simp [gapBad, hfb]
          rw [hfb] at hf2
          clear hra hN hfa hfb
          go_wp2_with fail
          refine (hf2.out _).mono ?_
          rintro e w3 ⟨rfl, hx3⟩
          have hE2 := Lib.hid ((hE1.out.trans hx2).trans hx3)
          have hR2 := Lib.hid (hR1.out.below (hx2.trans hx3) hR1.out.lt)
          replace k0 := (hx2.trans hx3).cell k0
          replace k1 := (hx2.trans hx3).cell k1
          replace m0 := hR2.out.frozen 0
          replace m1 := hR2.out.frozen 1
          clear hx2 hx3 hf1 hf2
          go_wp2
          (try simp only [Exit.inBlock, Exit.then])
          (try rw [Exit.noGoto_ret])
          refine bodyPost_ret (gap_results (x := 0) (y := 0) rfl (((hR2.out.set_ 0 _).set_ 1 _))) rfl ?_
          exact ⟨false, 0, 0, rfl, Or.inl ⟨R.out, rfl, rfl, rfl⟩, ((hE2.out.setCell (p := ⟨w.heap.size + 1, 0, none⟩) (Nat.le_succ _) _).setCell (p := ⟨w.heap.size + 1, 1, none⟩) (Nat.le_succ _) _)⟩
        | false =>
          have R : Hid (gapBad l n wf wt = false) := by show _ = _; simp [gapBad, hra, hfa, hfb]; omega
          obtain ⟨wf0, wf1⟩ := far_false hfa
          obtain ⟨wt0, wt1⟩ := far_false hfb
          rw [hfb] at hf2
          go_wp2_with fail
          refine (hf2.out _).mono ?_
          rintro e w3 ⟨rfl, hx3⟩
          have hE3 := Lib.hid ((hE1.out.trans hx2).trans hx3)
          have hB3 := Lib.hid (hB1.out.below (hx2.trans hx3) hB1.out.lt)
          have hR3 := Lib.hid (hR1.out.below (hx2.trans hx3) hR1.out.lt)
          have hN3 := Lib.hid (hN.out.ext (hx2.trans hx3))
          obtain ⟨hNat, _⟩ := hN3.out.at_
          have hNat' := Lib.hid hNat
          have NLen := hN3.out.len
          replace c0 := (hx2.trans hx3).cell c0
          clear hra hfa hfb hf1 hf2 hx2 hx3 hE1 hB1 hR1 hN hNat c1 k0 k1 m0 m1
          go_wp2
          go_step3
          go_wp2
          obtain ⟨G0, hG0⟩ : ∃ G0 : Nat, Hid ((G0 : Int) = 9007199254740992 - wf) := ⟨(9007199254740992 - wf).toNat, by show _ = _; omega⟩
          go_loopg [10] G0 (fun gm vt wr => ∃ t : Int, vt = .int .i64 t ∧ wf ≤ t ∧ -2251799813685248 ≤ t ∧ t ≤ 2251799813685248 ∧ Hid ((gm : Int) = 9007199254740992 - t) ∧ Hid (Ext w wr) ∧ Hid (Ext w3 wr) ∧ Hid (Blk wr (w.heap.size + 1) 25 #[.int .i64 0, .int .i64 0]) ∧ Hid (∀ u, wf ≤ u → u < t → u + n ≤ wt → MeetsAt N n u))
          case atStart => exact ⟨wf, rfl, by omega, by omega, by omega, hG0, hE3, Lib.hid (Ext.refl _), hR3, Lib.hid (fun u h1 h2 => by omega)⟩
          case round =>
            clear hE3 hG0
            obtain ⟨t, rfl, ht0, ht1, ht2, hg, hE, hE3, hRb, hbef⟩ := hrel
            replace c1 := hE3.out.cell (show w3.cell? ⟨w.heap.size, 1, none⟩ = some (.int .i64 wt) from hB3.out.cell 1)
            by_cases h1 : n ≤ wt - t
            · have d1 : decide (n ≤ wt - t) = true := decide_eq_true h1
              have n2 : n ≤ 4503599627370496 := by omega
              obtain ⟨gk0, hgk⟩ : ∃ gk0, Hid (gk = gk0) := ⟨_, rfl⟩
              rw [hgk.out] at hg
              go_wp2_with fail
              clear c1
              go_loopg [10, 45] N.length (fun gm va vj wr2 => ∃ j : Nat, va = .int .i64 t ∧ vj = .int .i64 j ∧ j + gm = N.length ∧ Hid (Ext w wr2) ∧ Hid (Ext w3 wr2) ∧ Hid (Blk wr2 (w.heap.size + 1) 25 #[.int .i64 0, .int .i64 0]) ∧ Hid (∀ s ∈ N.take j, ¬ (s.1 < t + n ∧ t < s.2)))
              case atStart => exact ⟨0, rfl, rfl, by omega, hE, hE3, hRb, Lib.hid (by simp)⟩
              case round =>
                clear hE hE3 hRb
                obtain ⟨j, rfl, rfl, hj, hE, hE3, hRb, hno⟩ := hrel
                by_cases h2 : j < N.length
                · obtain ⟨b1, o1, x, y, rfl, hb1, _, ex, g1, g2⟩ := hNat'.out j h2 wr hE3.out
                  have hmem := List.mem_of_getElem? ex.out
                  obtain ⟨⟨rx0, rx1⟩, ry0, ry1⟩ := ranged_at hrg.out hmem
                  have hE2 := Lib.hid (hE.out.alloc (.cells #[.int .i64 x, .int .i64 y] 25))
                  have hE32 := Lib.hid (hE3.out.alloc (.cells #[.int .i64 x, .int .i64 y] 25))
                  have hR2 := Lib.hid (hRb.out.alloc (.cells #[.int .i64 x, .int .i64 y] 25))
                  by_cases q1 : x < t + n
                  · have e1 : decide (x < t + n) = true := decide_eq_true q1
                    by_cases q2 : t < y
                    · have e2 : decide (t < y) = true := decide_eq_true q2
                      have hbef2 : Hid (∀ u, wf ≤ u → u < y → u + n ≤ wt → MeetsAt N n u) := Lib.hid fun u u0 u1 u2 => by
                        rcases Int.lt_or_le u t with h | h
                        · exact hbef.out u u0 h u2
                        · exact ⟨(x, y), hmem, by dsimp only; omega, by dsimp only; omega⟩
                      obtain ⟨G2, hG2⟩ : ∃ G2 : Nat, Hid ((G2 : Int) = 9007199254740992 - y) := ⟨(9007199254740992 - y).toNat, by show _ = _; omega⟩
                      have hlt : G2 < gk0 := by have a := hG2.out; have b := hg.out; omega
                      rw [← hgk.out] at hlt
                      clear hbef hno hE hE3 hRb hmem ex
                      go_wp2
                      go_roundg G2
                      · exact ⟨y, rfl, by omega, by omega, by omega, hG2, hE2, hE32, hR2, hbef2⟩
                      · exact hlt
                    · have e2 : decide (t < y) = false := decide_eq_false q2
                      have hno2 : Hid (∀ s ∈ N.take (j + 1), ¬ (s.1 < t + n ∧ t < s.2)) := Lib.hid fun s hs => by
                        rw [List.take_add_one, ex.out] at hs
                        rcases List.mem_append.1 hs with hs | hs
                        · exact hno.out s hs
                        · simp at hs; subst hs; exact fun h => q2 h.2
                      clear hno hE hE3 hRb hmem ex
                      go_wp2
                      go_roundg (gk - 1)
                      · exact ⟨j + 1, rfl, by go_num, by omega, hE2, hE32, hR2, hno2⟩
                      · omega
                  · have e1 : decide (x < t + n) = false := decide_eq_false q1
                    have hno2 : Hid (∀ s ∈ N.take (j + 1), ¬ (s.1 < t + n ∧ t < s.2)) := Lib.hid fun s hs => by
                      rw [List.take_add_one, ex.out] at hs
                      rcases List.mem_append.1 hs with hs | hs
                      · exact hno.out s hs
                      · simp at hs; subst hs; exact fun h => q1 h.1
                    clear hno hE hE3 hRb hmem ex
                    go_wp2
                    go_roundg (gk - 1)
                    · exact ⟨j + 1, rfl, by go_num, by omega, hE2, hE32, hR2, hno2⟩
                    · omega
                · have hnone : Hid (¬ MeetsAt N n t) := Lib.hid (by
                    rintro ⟨s, hs, h3⟩
                    exact hno.out s (by rw [List.take_of_length_le (by omega)]; exact hs) h3)
                  have k0 : wr.cell? ⟨w.heap.size + 1, 0, none⟩ = some (.int .i64 0) := hRb.out.cell 0
                  have k1 : wr.cell? ⟨w.heap.size + 1, 1, none⟩ = some (.int .i64 0) := hRb.out.cell 1
                  have m0 := hRb.out.frozen 0
                  have m1 := hRb.out.frozen 1
                  have hIs : Hid (GapIs N n wf wt true t (t + n)) := Lib.hid ⟨fun _ => ⟨ht0, rfl, by omega, hnone.out⟩, fun h => (by cases h), fun u u0 u1 u2 => hbef.out u u0 (u2 rfl) u1⟩
                  clear hno hbef
                  go_wp2
                  (try simp only [Exit.inBlock, Exit.then])
                  (try rw [Exit.noGoto_ret])
                  refine bodyPost_ret (gap_results (x := t) (y := t + n) rfl ((hRb.out.set_ 0 _).set_ 1 _)) rfl ?_
                  exact ⟨true, t, t + n, rfl, Or.inr ⟨R.out, by rw [hNe.out]; exact hIs.out⟩, ((hE.out.setCell (p := ⟨w.heap.size + 1, 0, none⟩) (Nat.le_succ _) _).setCell (p := ⟨w.heap.size + 1, 1, none⟩) (Nat.le_succ _) _)⟩
            · have d1 : decide (n ≤ wt - t) = false := decide_eq_false h1
              have k0 : wr.cell? ⟨w.heap.size + 1, 0, none⟩ = some (.int .i64 0) := hRb.out.cell 0
              have k1 : wr.cell? ⟨w.heap.size + 1, 1, none⟩ = some (.int .i64 0) := hRb.out.cell 1
              have m0 := hRb.out.frozen 0
              have m1 := hRb.out.frozen 1
              have hIs : Hid (GapIs N n wf wt false 0 0) := Lib.hid ⟨fun h => (by cases h), fun _ => ⟨rfl, rfl⟩, fun u u0 u1 _ => hbef.out u u0 (by omega) u1⟩
              clear hbef
              go_wp2
              (try simp only [Exit.inBlock, Exit.then])
              (try rw [Exit.noGoto_ret])
              refine bodyPost_ret (gap_results (x := 0) (y := 0) rfl ((hRb.out.set_ 0 _).set_ 1 _)) rfl ?_
              exact ⟨false, 0, 0, rfl, Or.inr ⟨R.out, by rw [hNe.out]; exact hIs.out⟩, ((hE.out.setCell (p := ⟨w.heap.size + 1, 0, none⟩) (Nat.le_succ _) _).setCell (p := ⟨w.heap.size + 1, 1, none⟩) (Nat.le_succ _) _)⟩
end Go.Proofs.Ytfajejelelbmmaa
